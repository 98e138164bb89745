/- Part of the proof of CacheServes: printed by programs of this repo out of the translation, and by hand. Each theorem's conditions stand in its statement. -/
import Derived.Test.YtjhnpaenhdbhpabMCacheServesa
import Derived.Test.YtjhnpaenhdbhpabMCacheServesb
set_option linter.unusedVariables false
set_option linter.unusedSimpArgs false
set_option maxRecDepth 100000
namespace Go.Proofs.YtjhnpaenhdbhpabV
open Go Go.RowKit
noncomputable def value_CompareRows  (k : Nat) (a0 : (List TValue)) (b1 : (List TValue)) : Option Int := (slices_CompareFunc_api_Value__value_Compare k a0 b1).bind fun y_1 => (some y_1)
noncomputable def value_CompareRows.t : List Item := [.code (bodyOf Try.f65)]
noncomputable def value_CompareRows.s (a0 : (List TValue)) (b1 : (List TValue)) : St := ⟨frOf Try.f65.ntmps 0 [(0, .p (eL 3 cValue dValue a0)), (1, .p (eL 3 cValue dValue b1))], []⟩
theorem value_CompareRows.run   {k : Nat} {a0 : (List TValue)} {b1 : (List TValue)} {r : Int} (h : value_CompareRows k a0 b1 = some r) : RunC Try.prog Try.f65 value_CompareRows.t (value_CompareRows.s a0 b1) (.p (.int .i64 r)) [] := by
  unfold value_CompareRows at h
  obtain ⟨y_1, e_2, h⟩ := bind_or h
  obtain rfl := Option.some.inj h
  exact RunC.out [.n 3, .r [(2, .call (.p (.int .i64 y_1)) [])]] (by kernel_rfl) (Obs.of (by kernel_rfl) (slices_CompareFunc_api_Value__value_Compare.spec e_2))
theorem value_CompareRows.mono   : ∀ (k k' : Nat) (a0 : (List TValue)) (b1 : (List TValue)) (r : Int), k ≤ k' → value_CompareRows k a0 b1 = some r → value_CompareRows k' a0 b1 = some r := by
  intro k k' a0 b1 r hk h
  unfold value_CompareRows at h ⊢
  obtain ⟨y_1, e_2, h⟩ := bind_or h
  refine bnd (slices_CompareFunc_api_Value__value_Compare.mono _ _ _ _ _ hk e_2) ?_
  exact h
theorem value_CompareRows.spec {k : Nat} {a0 : (List TValue)} {b1 : (List TValue)} {r : Int} (h : value_CompareRows k a0 b1 = some r) : Spec Try.prog 65 [.p (eL 3 cValue dValue a0), .p (eL 3 cValue dValue b1)] (.p (.int .i64 r)) [] :=
  spec_of mix Try.func65 (body := bodyOf Try.f65) (by kernel_rfl) (by kernel_rfl) (value_CompareRows.run h)
end Go.Proofs.YtjhnpaenhdbhpabV
set_option linter.unusedVariables false
set_option linter.unusedSimpArgs false
set_option maxRecDepth 100000
namespace Go.Proofs.YtjhnpaenhdbhpabV
open Go Go.RowKit
noncomputable def bag_Valid.p1  : Nat → (List TEntry) → (List TEntry) → Int → Int → Option Bool
  | 0, _, _, _, _ => none
  | k + 1, b0, v5, v6, v7 => if (decide (v7 < v6)) = true then (if 0 ≤ v7 ∧ v7 < ((v5).length : Int) then ((bag_entryFits k (v5.getD v7.toNat dEntry)).bind fun y_3 => (if (!y_3) = true then (some false) else (if ((v5.getD v7.toNat dEntry).f1 == 0) = true then (some false) else (if (decide (v7 > 0)) = true then (if 0 ≤ (IntKind.i64.wrap (v7 - 1)) ∧ (IntKind.i64.wrap (v7 - 1)) < ((b0).length : Int) then ((value_CompareRows k ((b0.getD (IntKind.i64.wrap (v7 - 1)).toNat dEntry).f0) ((v5.getD v7.toNat dEntry).f0)).bind fun y_9 => (if (decide (y_9 ≥ 0)) = true then (some false) else (bag_Valid.p1 k b0 v5 v6 (IntKind.i64.wrap (v7 + 1))))) else none) else (bag_Valid.p1 k b0 v5 v6 (IntKind.i64.wrap (v7 + 1))))))) else none) else (some (decide (((b0).length : Int) ≤ 4096)))
noncomputable def bag_Valid  (k : Nat) (b0 : (List TEntry)) : Option Bool := bag_Valid.p1 k b0 b0 ((b0).length : Int) 0
noncomputable def bag_Valid.t : List Item := [.code (bodyOf Try.f51)]
noncomputable def bag_Valid.s (b0 : (List TEntry)) : St := ⟨frOf Try.f51.ntmps 0 [(0, .p (eL 2 cEntry dEntry b0))], []⟩
noncomputable def bag_Valid.p1.t : List Item := nav 7 [] bag_Valid.t
noncomputable def bag_Valid.p1.s (b0 : (List TEntry)) (v5 : (List TEntry)) (v6 : Int) (v7 : Int) : St := ⟨frOf Try.f51.ntmps 0 [(0, .p (eL 2 cEntry dEntry b0)), (5, .p (eL 2 cEntry dEntry v5)), (6, .p (.int .i64 v6)), (7, .p (.int .i64 v7))], []⟩
theorem bag_Valid.p1.run   : ∀ (k : Nat) (b0 : (List TEntry)) (v5 : (List TEntry)) (v6 : Int) (v7 : Int) (r : Bool), bag_Valid.p1 k b0 v5 v6 v7 = some r → RunC Try.prog Try.f51 bag_Valid.p1.t (bag_Valid.p1.s b0 v5 v6 v7) (.p (.bool r)) [] := by
  intro k
  induction k with
  | zero => intro b0 v5 v6 v7 r h; simp [bag_Valid.p1] at h
  | succ k ih =>
    intro b0 v5 v6 v7 r h
    rw [bag_Valid.p1] at h
    rcases ite_or h with ⟨g_1, h⟩ | ⟨g_1, h⟩
    · obtain ⟨g_2, h⟩ := ite_some h
      obtain ⟨y_3, e_4, h⟩ := bind_or h
      rcases ite_or h with ⟨g_5, h⟩ | ⟨g_5, h⟩
      · obtain rfl := Option.some.inj h
        exact RunC.out [.n 1, .r [(0, .dec true)], .n 8, .r [(1, .call (.p (.bool y_3)) []), (3, .dec true)], .n 3] (by kernel_rfl) (Obs.of (by kernel_rfl) (And.intro g_1 (And.intro g_2 (And.intro (bag_entryFits.spec e_4) g_5))))
      · rcases ite_or h with ⟨g_6, h⟩ | ⟨g_6, h⟩
        · obtain rfl := Option.some.inj h
          exact RunC.out [.n 1, .r [(0, .dec true)], .n 8, .r [(1, .call (.p (.bool y_3)) []), (3, .dec false), (8, .dec true)], .n 3] (by kernel_rfl) (Obs.of (by kernel_rfl) (And.intro g_1 (And.intro g_2 (And.intro (bag_entryFits.spec e_4) (And.intro (nt g_5) g_6)))))
        · rcases ite_or h with ⟨g_7, h⟩ | ⟨g_7, h⟩
          · obtain ⟨g_8, h⟩ := ite_some h
            obtain ⟨y_9, e_10, h⟩ := bind_or h
            rcases ite_or h with ⟨g_11, h⟩ | ⟨g_11, h⟩
            · obtain rfl := Option.some.inj h
              exact RunC.out [.n 1, .r [(0, .dec true)], .n 8, .r [(1, .call (.p (.bool y_3)) []), (3, .dec false), (8, .dec false), (11, .dec true), (20, .call (.p (.int .i64 y_9)) []), (23, .dec true)], .n 3] (by kernel_rfl) (Obs.of (by kernel_rfl) (And.intro g_1 (And.intro g_2 (And.intro (bag_entryFits.spec e_4) (And.intro (nt g_5) (And.intro (nt g_6) (And.intro g_7 (And.intro g_8 (And.intro (value_CompareRows.spec e_10) g_11)))))))))
            · exact RunC.go [.n 1, .r [(0, .dec true)], .n 8, .r [(1, .call (.p (.bool y_3)) []), (3, .dec false), (8, .dec false), (11, .dec true), (20, .call (.p (.int .i64 y_9)) []), (23, .dec false)], .n 5, .k [0, 5, 6, 7]] (by kernel_rfl) (Obs.of (by kernel_rfl) (And.intro g_1 (And.intro g_2 (And.intro (bag_entryFits.spec e_4) (And.intro (nt g_5) (And.intro (nt g_6) (And.intro g_7 (And.intro g_8 (And.intro (value_CompareRows.spec e_10) (nt g_11)))))))))) (ih _ _ _ _ r h)
          · exact RunC.go [.n 1, .r [(0, .dec true)], .n 8, .r [(1, .call (.p (.bool y_3)) []), (3, .dec false), (8, .dec false), (11, .dec false)], .n 5, .k [0, 5, 6, 7]] (by kernel_rfl) (Obs.of (by kernel_rfl) (And.intro g_1 (And.intro g_2 (And.intro (bag_entryFits.spec e_4) (And.intro (nt g_5) (And.intro (nt g_6) (nt g_7))))))) (ih _ _ _ _ r h)
    · obtain rfl := Option.some.inj h
      exact RunC.out [.n 1, .r [(0, .dec false)], .n 5] (by kernel_rfl) (Obs.of (by kernel_rfl) (nt g_1))
theorem bag_Valid.run   {k : Nat} {b0 : (List TEntry)} {r : Bool} (h : bag_Valid k b0 = some r) : RunC Try.prog Try.f51 bag_Valid.t (bag_Valid.s b0) (.p (.bool r)) [] := by
  unfold bag_Valid at h
  exact RunC.go [.n 7, .k [0, 5, 6, 7]] (by kernel_rfl) (Obs.tt (by kernel_rfl)) (bag_Valid.p1.run k _ _ _ _ r h)
theorem bag_Valid.p1.mono   : ∀ (k k' : Nat) (b0 : (List TEntry)) (v5 : (List TEntry)) (v6 : Int) (v7 : Int) (r : Bool), k ≤ k' → bag_Valid.p1 k b0 v5 v6 v7 = some r → bag_Valid.p1 k' b0 v5 v6 v7 = some r := by
  intro k
  induction k with
  | zero => intro k' b0 v5 v6 v7 r hk h; simp [bag_Valid.p1] at h
  | succ k ih =>
    intro k' b0 v5 v6 v7 r hk h
    obtain ⟨k', rfl⟩ : ∃ m, k' = m + 1 := ⟨k' - 1, by omega⟩
    replace hk := Nat.le_of_succ_le_succ hk
    rw [bag_Valid.p1] at h ⊢
    rcases ite_or h with ⟨g_1, h⟩ | ⟨g_1, h⟩
    · refine itp g_1 ?_
      obtain ⟨g_2, h⟩ := ite_some h
      refine itp g_2 ?_
      obtain ⟨y_3, e_4, h⟩ := bind_or h
      refine bnd (bag_entryFits.mono _ _ _ _ hk e_4) ?_
      rcases ite_or h with ⟨g_5, h⟩ | ⟨g_5, h⟩
      · refine itp g_5 ?_
        exact h
      · refine itn g_5 ?_
        rcases ite_or h with ⟨g_6, h⟩ | ⟨g_6, h⟩
        · refine itp g_6 ?_
          exact h
        · refine itn g_6 ?_
          rcases ite_or h with ⟨g_7, h⟩ | ⟨g_7, h⟩
          · refine itp g_7 ?_
            obtain ⟨g_8, h⟩ := ite_some h
            refine itp g_8 ?_
            obtain ⟨y_9, e_10, h⟩ := bind_or h
            refine bnd (value_CompareRows.mono _ _ _ _ _ hk e_10) ?_
            rcases ite_or h with ⟨g_11, h⟩ | ⟨g_11, h⟩
            · refine itp g_11 ?_
              exact h
            · refine itn g_11 ?_
              exact ih _ _ _ _ _ r hk h
          · refine itn g_7 ?_
            exact ih _ _ _ _ _ r hk h
    · refine itn g_1 ?_
      exact h
theorem bag_Valid.mono   : ∀ (k k' : Nat) (b0 : (List TEntry)) (r : Bool), k ≤ k' → bag_Valid k b0 = some r → bag_Valid k' b0 = some r := by
  intro k k' b0 r hk h
  unfold bag_Valid at h ⊢
  exact bag_Valid.p1.mono _ _ _ _ _ _ r hk h
theorem bag_Valid.spec {k : Nat} {b0 : (List TEntry)} {r : Bool} (h : bag_Valid k b0 = some r) : Spec Try.prog 51 [.p (eL 2 cEntry dEntry b0)] (.p (.bool r)) [] :=
  spec_of mix Try.func51 (body := bodyOf Try.f51) (by kernel_rfl) (by kernel_rfl) (bag_Valid.run h)
end Go.Proofs.YtjhnpaenhdbhpabV
set_option linter.unusedVariables false
set_option linter.unusedSimpArgs false
set_option maxRecDepth 100000
namespace Go.Proofs.YtjhnpaenhdbhpabV
open Go Go.RowKit
noncomputable def cache_inDays  (k : Nat) (n0 : Int) : Option Bool := if (decide (n0 ≥ 0)) = true then (some (decide (n0 ≤ 1048576))) else (some false)
noncomputable def cache_inDays.t : List Item := [.code (bodyOf Try.f49)]
noncomputable def cache_inDays.s (n0 : Int) : St := ⟨frOf Try.f49.ntmps 0 [(0, .p (.int .i64 n0))], []⟩
theorem cache_inDays.run   {k : Nat} {n0 : Int} {r : Bool} (h : cache_inDays k n0 = some r) : RunC Try.prog Try.f49 cache_inDays.t (cache_inDays.s n0) (.p (.bool r)) [] := by
  unfold cache_inDays at h
  rcases ite_or h with ⟨g_1, h⟩ | ⟨g_1, h⟩
  · obtain rfl := Option.some.inj h
    exact RunC.out [.n 3, .r [(2, .dec true)]] (by kernel_rfl) (Obs.of (by kernel_rfl) g_1)
  · obtain rfl := Option.some.inj h
    exact RunC.out [.n 3, .r [(2, .dec false)]] (by kernel_rfl) (Obs.of (by kernel_rfl) (nt g_1))
theorem cache_inDays.mono   : ∀ (k k' : Nat) (n0 : Int) (r : Bool), k ≤ k' → cache_inDays k n0 = some r → cache_inDays k' n0 = some r := by
  intro k k' n0 r hk h
  unfold cache_inDays at h ⊢
  rcases ite_or h with ⟨g_1, h⟩ | ⟨g_1, h⟩
  · refine itp g_1 ?_
    exact h
  · refine itn g_1 ?_
    exact h
theorem cache_inDays.spec {k : Nat} {n0 : Int} {r : Bool} (h : cache_inDays k n0 = some r) : Spec Try.prog 49 [.p (.int .i64 n0)] (.p (.bool r)) [] :=
  spec_of mix Try.func49 (body := bodyOf Try.f49) (by kernel_rfl) (by kernel_rfl) (cache_inDays.run h)
end Go.Proofs.YtjhnpaenhdbhpabV
set_option linter.unusedVariables false
set_option linter.unusedSimpArgs false
set_option maxRecDepth 100000
namespace Go.Proofs.YtjhnpaenhdbhpabV
open Go Go.RowKit
noncomputable def cache_Valid.p1  : Nat → (List TCached) → Int → Option Bool
  | 0, _, _ => none
  | k + 1, s0, i3 => if (decide (i3 < ((s0).length : Int))) = true then (if 0 ≤ i3 ∧ i3 < ((s0).length : Int) then ((value_Valid k ((s0.getD i3.toNat dCached).f0)).bind fun y_4 => (if (!y_4) = true then (some false) else (if (decide (i3 > 0)) = true then (if 0 ≤ (IntKind.i64.wrap (i3 - 1)) ∧ (IntKind.i64.wrap (i3 - 1)) < ((s0).length : Int) then ((value_Compare k ((s0.getD (IntKind.i64.wrap (i3 - 1)).toNat dCached).f0) ((s0.getD i3.toNat dCached).f0)).bind fun y_9 => (if (decide (y_9 ≥ 0)) = true then (some false) else ((bag_Valid k ((s0.getD i3.toNat dCached).f1)).bind fun y_12 => (if (!y_12) = true then (some false) else ((cache_inDays k ((s0.getD i3.toNat dCached).f2)).bind fun y_15 => (if (!y_15) = true then (some false) else (cache_Valid.p1 k s0 (IntKind.i64.wrap (i3 + 1))))))))) else none) else ((bag_Valid k ((s0.getD i3.toNat dCached).f1)).bind fun y_18 => (if (!y_18) = true then (some false) else ((cache_inDays k ((s0.getD i3.toNat dCached).f2)).bind fun y_21 => (if (!y_21) = true then (some false) else (cache_Valid.p1 k s0 (IntKind.i64.wrap (i3 + 1)))))))))) else none) else (some true)
noncomputable def cache_Valid  (k : Nat) (s0 : (List TCached)) : Option Bool := if (decide (((s0).length : Int) > 16)) = true then (some false) else (cache_Valid.p1 k s0 0)
noncomputable def cache_Valid.t : List Item := [.code (bodyOf Try.f27)]
noncomputable def cache_Valid.s (s0 : (List TCached)) : St := ⟨frOf Try.f27.ntmps 0 [(0, .p (eL 5 cCached dCached s0))], []⟩
noncomputable def cache_Valid.p1.t : List Item := nav 12 [false] cache_Valid.t
noncomputable def cache_Valid.p1.s (s0 : (List TCached)) (i3 : Int) : St := ⟨frOf Try.f27.ntmps 0 [(0, .p (eL 5 cCached dCached s0)), (3, .p (.int .i64 i3))], []⟩
theorem cache_Valid.p1.run   : ∀ (k : Nat) (s0 : (List TCached)) (i3 : Int) (r : Bool), cache_Valid.p1 k s0 i3 = some r → RunC Try.prog Try.f27 cache_Valid.p1.t (cache_Valid.p1.s s0 i3) (.p (.bool r)) [] := by
  intro k
  induction k with
  | zero => intro s0 i3 r h; simp [cache_Valid.p1] at h
  | succ k ih =>
    intro s0 i3 r h
    rw [cache_Valid.p1] at h
    rcases ite_or h with ⟨g_2, h⟩ | ⟨g_2, h⟩
    · obtain ⟨g_3, h⟩ := ite_some h
      obtain ⟨y_4, e_5, h⟩ := bind_or h
      rcases ite_or h with ⟨g_6, h⟩ | ⟨g_6, h⟩
      · obtain rfl := Option.some.inj h
        exact RunC.out [.n 2, .r [(3, .dec true)], .n 7, .r [(2, .call (.p (.bool y_4)) []), (4, .dec true)], .n 3] (by kernel_rfl) (Obs.of (by kernel_rfl) (And.intro g_2 (And.intro g_3 (And.intro (value_Valid.spec e_5) g_6))))
      · rcases ite_or h with ⟨g_7, h⟩ | ⟨g_7, h⟩
        · obtain ⟨g_8, h⟩ := ite_some h
          obtain ⟨y_9, e_10, h⟩ := bind_or h
          rcases ite_or h with ⟨g_11, h⟩ | ⟨g_11, h⟩
          · obtain rfl := Option.some.inj h
            exact RunC.out [.n 2, .r [(3, .dec true)], .n 7, .r [(2, .call (.p (.bool y_4)) []), (4, .dec false), (7, .dec true), (16, .call (.p (.int .i64 y_9)) []), (20, .dec true)], .n 3] (by kernel_rfl) (Obs.of (by kernel_rfl) (And.intro g_2 (And.intro g_3 (And.intro (value_Valid.spec e_5) (And.intro (nt g_6) (And.intro g_7 (And.intro g_8 (And.intro (value_Compare.spec e_10) g_11))))))))
          · obtain ⟨y_12, e_13, h⟩ := bind_or h
            rcases ite_or h with ⟨g_14, h⟩ | ⟨g_14, h⟩
            · obtain rfl := Option.some.inj h
              exact RunC.out [.n 2, .r [(3, .dec true)], .n 7, .r [(2, .call (.p (.bool y_4)) []), (4, .dec false), (7, .dec true), (16, .call (.p (.int .i64 y_9)) []), (20, .dec false), (23, .call (.p (.bool y_12)) []), (26, .dec true)], .n 3] (by kernel_rfl) (Obs.of (by kernel_rfl) (And.intro g_2 (And.intro g_3 (And.intro (value_Valid.spec e_5) (And.intro (nt g_6) (And.intro g_7 (And.intro g_8 (And.intro (value_Compare.spec e_10) (And.intro (nt g_11) (And.intro (bag_Valid.spec e_13) g_14))))))))))
            · obtain ⟨y_15, e_16, h⟩ := bind_or h
              rcases ite_or h with ⟨g_17, h⟩ | ⟨g_17, h⟩
              · obtain rfl := Option.some.inj h
                exact RunC.out [.n 2, .r [(3, .dec true)], .n 7, .r [(2, .call (.p (.bool y_4)) []), (4, .dec false), (7, .dec true), (16, .call (.p (.int .i64 y_9)) []), (20, .dec false), (23, .call (.p (.bool y_12)) []), (26, .dec false), (29, .call (.p (.bool y_15)) []), (31, .dec true)], .n 3] (by kernel_rfl) (Obs.of (by kernel_rfl) (And.intro g_2 (And.intro g_3 (And.intro (value_Valid.spec e_5) (And.intro (nt g_6) (And.intro g_7 (And.intro g_8 (And.intro (value_Compare.spec e_10) (And.intro (nt g_11) (And.intro (bag_Valid.spec e_13) (And.intro (nt g_14) (And.intro (cache_inDays.spec e_16) g_17))))))))))))
              · exact RunC.go [.n 2, .r [(3, .dec true)], .n 7, .r [(2, .call (.p (.bool y_4)) []), (4, .dec false), (7, .dec true), (16, .call (.p (.int .i64 y_9)) []), (20, .dec false), (23, .call (.p (.bool y_12)) []), (26, .dec false), (29, .call (.p (.bool y_15)) []), (31, .dec false)], .n 5, .k [0, 3]] (by kernel_rfl) (Obs.of (by kernel_rfl) (And.intro g_2 (And.intro g_3 (And.intro (value_Valid.spec e_5) (And.intro (nt g_6) (And.intro g_7 (And.intro g_8 (And.intro (value_Compare.spec e_10) (And.intro (nt g_11) (And.intro (bag_Valid.spec e_13) (And.intro (nt g_14) (And.intro (cache_inDays.spec e_16) (nt g_17))))))))))))) (ih _ _ r h)
        · obtain ⟨y_18, e_19, h⟩ := bind_or h
          rcases ite_or h with ⟨g_20, h⟩ | ⟨g_20, h⟩
          · obtain rfl := Option.some.inj h
            exact RunC.out [.n 2, .r [(3, .dec true)], .n 7, .r [(2, .call (.p (.bool y_4)) []), (4, .dec false), (7, .dec false), (23, .call (.p (.bool y_18)) []), (26, .dec true)], .n 3] (by kernel_rfl) (Obs.of (by kernel_rfl) (And.intro g_2 (And.intro g_3 (And.intro (value_Valid.spec e_5) (And.intro (nt g_6) (And.intro (nt g_7) (And.intro (bag_Valid.spec e_19) g_20)))))))
          · obtain ⟨y_21, e_22, h⟩ := bind_or h
            rcases ite_or h with ⟨g_23, h⟩ | ⟨g_23, h⟩
            · obtain rfl := Option.some.inj h
              exact RunC.out [.n 2, .r [(3, .dec true)], .n 7, .r [(2, .call (.p (.bool y_4)) []), (4, .dec false), (7, .dec false), (23, .call (.p (.bool y_18)) []), (26, .dec false), (29, .call (.p (.bool y_21)) []), (31, .dec true)], .n 3] (by kernel_rfl) (Obs.of (by kernel_rfl) (And.intro g_2 (And.intro g_3 (And.intro (value_Valid.spec e_5) (And.intro (nt g_6) (And.intro (nt g_7) (And.intro (bag_Valid.spec e_19) (And.intro (nt g_20) (And.intro (cache_inDays.spec e_22) g_23)))))))))
            · exact RunC.go [.n 2, .r [(3, .dec true)], .n 7, .r [(2, .call (.p (.bool y_4)) []), (4, .dec false), (7, .dec false), (23, .call (.p (.bool y_18)) []), (26, .dec false), (29, .call (.p (.bool y_21)) []), (31, .dec false)], .n 5, .k [0, 3]] (by kernel_rfl) (Obs.of (by kernel_rfl) (And.intro g_2 (And.intro g_3 (And.intro (value_Valid.spec e_5) (And.intro (nt g_6) (And.intro (nt g_7) (And.intro (bag_Valid.spec e_19) (And.intro (nt g_20) (And.intro (cache_inDays.spec e_22) (nt g_23)))))))))) (ih _ _ r h)
    · obtain rfl := Option.some.inj h
      exact RunC.out [.n 2, .r [(3, .dec false)], .n 4] (by kernel_rfl) (Obs.of (by kernel_rfl) (nt g_2))
theorem cache_Valid.run   {k : Nat} {s0 : (List TCached)} {r : Bool} (h : cache_Valid k s0 = some r) : RunC Try.prog Try.f27 cache_Valid.t (cache_Valid.s s0) (.p (.bool r)) [] := by
  unfold cache_Valid at h
  rcases ite_or h with ⟨g_1, h⟩ | ⟨g_1, h⟩
  · obtain rfl := Option.some.inj h
    exact RunC.out [.n 4, .r [(2, .dec true)], .n 3] (by kernel_rfl) (Obs.of (by kernel_rfl) g_1)
  · exact RunC.go [.n 4, .r [(2, .dec false)], .n 7, .k [0, 3]] (by kernel_rfl) (Obs.of (by kernel_rfl) (nt g_1)) (cache_Valid.p1.run k _ _ r h)
theorem cache_Valid.p1.mono   : ∀ (k k' : Nat) (s0 : (List TCached)) (i3 : Int) (r : Bool), k ≤ k' → cache_Valid.p1 k s0 i3 = some r → cache_Valid.p1 k' s0 i3 = some r := by
  intro k
  induction k with
  | zero => intro k' s0 i3 r hk h; simp [cache_Valid.p1] at h
  | succ k ih =>
    intro k' s0 i3 r hk h
    obtain ⟨k', rfl⟩ : ∃ m, k' = m + 1 := ⟨k' - 1, by omega⟩
    replace hk := Nat.le_of_succ_le_succ hk
    rw [cache_Valid.p1] at h ⊢
    rcases ite_or h with ⟨g_2, h⟩ | ⟨g_2, h⟩
    · refine itp g_2 ?_
      obtain ⟨g_3, h⟩ := ite_some h
      refine itp g_3 ?_
      obtain ⟨y_4, e_5, h⟩ := bind_or h
      refine bnd (value_Valid.mono _ _ _ _ hk e_5) ?_
      rcases ite_or h with ⟨g_6, h⟩ | ⟨g_6, h⟩
      · refine itp g_6 ?_
        exact h
      · refine itn g_6 ?_
        rcases ite_or h with ⟨g_7, h⟩ | ⟨g_7, h⟩
        · refine itp g_7 ?_
          obtain ⟨g_8, h⟩ := ite_some h
          refine itp g_8 ?_
          obtain ⟨y_9, e_10, h⟩ := bind_or h
          refine bnd (value_Compare.mono _ _ _ _ _ hk e_10) ?_
          rcases ite_or h with ⟨g_11, h⟩ | ⟨g_11, h⟩
          · refine itp g_11 ?_
            exact h
          · refine itn g_11 ?_
            obtain ⟨y_12, e_13, h⟩ := bind_or h
            refine bnd (bag_Valid.mono _ _ _ _ hk e_13) ?_
            rcases ite_or h with ⟨g_14, h⟩ | ⟨g_14, h⟩
            · refine itp g_14 ?_
              exact h
            · refine itn g_14 ?_
              obtain ⟨y_15, e_16, h⟩ := bind_or h
              refine bnd (cache_inDays.mono _ _ _ _ hk e_16) ?_
              rcases ite_or h with ⟨g_17, h⟩ | ⟨g_17, h⟩
              · refine itp g_17 ?_
                exact h
              · refine itn g_17 ?_
                exact ih _ _ _ r hk h
        · refine itn g_7 ?_
          obtain ⟨y_18, e_19, h⟩ := bind_or h
          refine bnd (bag_Valid.mono _ _ _ _ hk e_19) ?_
          rcases ite_or h with ⟨g_20, h⟩ | ⟨g_20, h⟩
          · refine itp g_20 ?_
            exact h
          · refine itn g_20 ?_
            obtain ⟨y_21, e_22, h⟩ := bind_or h
            refine bnd (cache_inDays.mono _ _ _ _ hk e_22) ?_
            rcases ite_or h with ⟨g_23, h⟩ | ⟨g_23, h⟩
            · refine itp g_23 ?_
              exact h
            · refine itn g_23 ?_
              exact ih _ _ _ r hk h
    · refine itn g_2 ?_
      exact h
theorem cache_Valid.mono   : ∀ (k k' : Nat) (s0 : (List TCached)) (r : Bool), k ≤ k' → cache_Valid k s0 = some r → cache_Valid k' s0 = some r := by
  intro k k' s0 r hk h
  unfold cache_Valid at h ⊢
  rcases ite_or h with ⟨g_1, h⟩ | ⟨g_1, h⟩
  · refine itp g_1 ?_
    exact h
  · refine itn g_1 ?_
    exact cache_Valid.p1.mono _ _ _ _ r hk h
theorem cache_Valid.spec {k : Nat} {s0 : (List TCached)} {r : Bool} (h : cache_Valid k s0 = some r) : Spec Try.prog 27 [.p (eL 5 cCached dCached s0)] (.p (.bool r)) [] :=
  spec_of mix Try.func27 (body := bodyOf Try.f27) (by kernel_rfl) (by kernel_rfl) (cache_Valid.run h)
end Go.Proofs.YtjhnpaenhdbhpabV
set_option linter.unusedVariables false
set_option linter.unusedSimpArgs false
set_option maxRecDepth 100000
namespace Go.Proofs.YtjhnpaenhdbhpabV
open Go Go.RowKit
noncomputable def cache_usable  (k : Nat) (c0 : TCache) (s1 : (List TCached)) (rows2 : (List TEntry)) (day3 : Int) : Option Bool := (cache_Valid k s1).bind fun y_1 => (if y_1 = true then ((bag_Valid k rows2).bind fun y_4 => (if y_4 = true then ((cache_inDays k c0.f3).bind fun y_7 => (if y_7 = true then ((cache_inDays k day3).bind fun y_10 => (some y_10)) else (some false))) else (some false))) else (some false))
noncomputable def cache_usable.t : List Item := [.code (bodyOf Try.f42)]
noncomputable def cache_usable.s (c0 : TCache) (s1 : (List TCached)) (rows2 : (List TEntry)) (day3 : Int) : St := ⟨frOf Try.f42.ntmps 0 [(0, .agg ((cCache c0).map .p)), (1, .p (eL 5 cCached dCached s1)), (2, .p (eL 2 cEntry dEntry rows2)), (3, .p (.int .i64 day3))], []⟩
theorem cache_usable.run   {k : Nat} {c0 : TCache} {s1 : (List TCached)} {rows2 : (List TEntry)} {day3 : Int} {r : Bool} (h : cache_usable k c0 s1 rows2 day3 = some r) : RunC Try.prog Try.f42 cache_usable.t (cache_usable.s c0 s1 rows2 day3) (.p (.bool r)) [] := by
  unfold cache_usable at h
  obtain ⟨y_1, e_2, h⟩ := bind_or h
  rcases ite_or h with ⟨g_3, h⟩ | ⟨g_3, h⟩
  · obtain ⟨y_4, e_5, h⟩ := bind_or h
    rcases ite_or h with ⟨g_6, h⟩ | ⟨g_6, h⟩
    · obtain ⟨y_7, e_8, h⟩ := bind_or h
      rcases ite_or h with ⟨g_9, h⟩ | ⟨g_9, h⟩
      · obtain ⟨y_10, e_11, h⟩ := bind_or h
        obtain rfl := Option.some.inj h
        exact RunC.out [.n 3, .r [(1, .call (.p (.bool y_1)) []), (2, .dec true), (4, .call (.p (.bool y_4)) []), (6, .dec true), (9, .call (.p (.bool y_7)) []), (11, .dec true), (13, .call (.p (.bool y_10)) [])]] (by kernel_rfl) (Obs.of (by kernel_rfl) (And.intro (cache_Valid.spec e_2) (And.intro g_3 (And.intro (bag_Valid.spec e_5) (And.intro g_6 (And.intro (cache_inDays.spec e_8) (And.intro g_9 (cache_inDays.spec e_11))))))))
      · obtain rfl := Option.some.inj h
        exact RunC.out [.n 3, .r [(1, .call (.p (.bool y_1)) []), (2, .dec true), (4, .call (.p (.bool y_4)) []), (6, .dec true), (9, .call (.p (.bool y_7)) []), (11, .dec false)]] (by kernel_rfl) (Obs.of (by kernel_rfl) (And.intro (cache_Valid.spec e_2) (And.intro g_3 (And.intro (bag_Valid.spec e_5) (And.intro g_6 (And.intro (cache_inDays.spec e_8) (nt g_9)))))))
    · obtain rfl := Option.some.inj h
      exact RunC.out [.n 3, .r [(1, .call (.p (.bool y_1)) []), (2, .dec true), (4, .call (.p (.bool y_4)) []), (6, .dec false)]] (by kernel_rfl) (Obs.of (by kernel_rfl) (And.intro (cache_Valid.spec e_2) (And.intro g_3 (And.intro (bag_Valid.spec e_5) (nt g_6)))))
  · obtain rfl := Option.some.inj h
    exact RunC.out [.n 3, .r [(1, .call (.p (.bool y_1)) []), (2, .dec false)]] (by kernel_rfl) (Obs.of (by kernel_rfl) (And.intro (cache_Valid.spec e_2) (nt g_3)))
theorem cache_usable.mono   : ∀ (k k' : Nat) (c0 : TCache) (s1 : (List TCached)) (rows2 : (List TEntry)) (day3 : Int) (r : Bool), k ≤ k' → cache_usable k c0 s1 rows2 day3 = some r → cache_usable k' c0 s1 rows2 day3 = some r := by
  intro k k' c0 s1 rows2 day3 r hk h
  unfold cache_usable at h ⊢
  obtain ⟨y_1, e_2, h⟩ := bind_or h
  refine bnd (cache_Valid.mono _ _ _ _ hk e_2) ?_
  rcases ite_or h with ⟨g_3, h⟩ | ⟨g_3, h⟩
  · refine itp g_3 ?_
    obtain ⟨y_4, e_5, h⟩ := bind_or h
    refine bnd (bag_Valid.mono _ _ _ _ hk e_5) ?_
    rcases ite_or h with ⟨g_6, h⟩ | ⟨g_6, h⟩
    · refine itp g_6 ?_
      obtain ⟨y_7, e_8, h⟩ := bind_or h
      refine bnd (cache_inDays.mono _ _ _ _ hk e_8) ?_
      rcases ite_or h with ⟨g_9, h⟩ | ⟨g_9, h⟩
      · refine itp g_9 ?_
        obtain ⟨y_10, e_11, h⟩ := bind_or h
        refine bnd (cache_inDays.mono _ _ _ _ hk e_11) ?_
        exact h
      · refine itn g_9 ?_
        exact h
    · refine itn g_6 ?_
      exact h
  · refine itn g_3 ?_
    exact h
theorem cache_usable.spec {k : Nat} {c0 : TCache} {s1 : (List TCached)} {rows2 : (List TEntry)} {day3 : Int} {r : Bool} (h : cache_usable k c0 s1 rows2 day3 = some r) : Spec Try.prog 42 [.agg ((cCache c0).map .p), .p (eL 5 cCached dCached s1), .p (eL 2 cEntry dEntry rows2), .p (.int .i64 day3)] (.p (.bool r)) [] :=
  spec_of mix Try.func42 (body := bodyOf Try.f42) (by kernel_rfl) (by kernel_rfl) (cache_usable.run h)
end Go.Proofs.YtjhnpaenhdbhpabV
set_option linter.unusedVariables false
set_option linter.unusedSimpArgs false
set_option maxRecDepth 100000
namespace Go.Proofs.YtjhnpaenhdbhpabV
open Go Go.RowKit
noncomputable def cache_copied.p1  : Nat → (List TEntry) → Int → (List TEntry) → Option (List TEntry)
  | 0, _, _, _ => none
  | k + 1, l0, i4, out3 => if (decide (i4 < ((l0).length : Int))) = true then (if 0 ≤ i4 ∧ i4 < ((l0).length : Int) then (if ((l0.getD i4.toNat dEntry).f0).length ≤ maxLen ∧ ((l0.getD i4.toNat dEntry).f0).length * 32 ≤ 140737488355328 then (if (out3).length + ([(l0.getD i4.toNat dEntry)]).length ≤ maxLen ∧ ((out3).length + ([(l0.getD i4.toNat dEntry)]).length) * 32 ≤ 140737488355328 then (cache_copied.p1 k l0 (IntKind.i64.wrap (i4 + 1)) (out3 ++ ([(l0.getD i4.toNat dEntry)]))) else none) else none) else none) else (some out3)
noncomputable def cache_copied  (k : Nat) (l0 : (List TEntry)) : Option (List TEntry) := cache_copied.p1 k l0 0 ([] : List TEntry)
noncomputable def cache_copied.t : List Item := [.code (bodyOf Try.f39)]
noncomputable def cache_copied.s (l0 : (List TEntry)) : St := ⟨frOf Try.f39.ntmps 0 [(0, .p (eL 2 cEntry dEntry l0))], []⟩
noncomputable def cache_copied.p1.t : List Item := nav 9 [] cache_copied.t
noncomputable def cache_copied.p1.s (l0 : (List TEntry)) (i4 : Int) (out3 : (List TEntry)) : St := ⟨frOf Try.f39.ntmps 0 [(0, .p (eL 2 cEntry dEntry l0)), (3, .sref 0 36 2 (out3).length), (4, .p (.int .i64 i4))], [(oL true 36 2 cEntry dEntry out3)]⟩
theorem cache_copied.p1.run   : ∀ (k : Nat) (l0 : (List TEntry)) (i4 : Int) (out3 : (List TEntry)) (r : (List TEntry)), cache_copied.p1 k l0 i4 out3 = some r → RunC Try.prog Try.f39 cache_copied.p1.t (cache_copied.p1.s l0 i4 out3) (.sref 0 36 2 (r).length) [(oL true 36 2 cEntry dEntry (r))] := by
  intro k
  induction k with
  | zero => intro l0 i4 out3 r h; simp [cache_copied.p1] at h
  | succ k ih =>
    intro l0 i4 out3 r h
    rw [cache_copied.p1] at h
    rcases ite_or h with ⟨g_1, h⟩ | ⟨g_1, h⟩
    · obtain ⟨g_2, h⟩ := ite_some h
      obtain ⟨g_3, h⟩ := ite_some h
      obtain ⟨g_4, h⟩ := ite_some h
      exact RunC.go [.n 2, .r [(3, .dec true)], .n 4, .r [(13, .obj (oL true 36 2 cEntry dEntry [(l0.getD i4.toNat dEntry)])), (14, .obj (oL true 36 2 cEntry dEntry (out3 ++ ([(l0.getD i4.toNat dEntry)]))))], .n 3, .k [0, 3, 4]] (by kernel_rfl) (Obs.of (by kernel_rfl) (And.intro g_1 (And.intro g_2 (And.intro g_3 (And.intro g_2 (And.intro (le_one 36 2 cEntry dEntry (l0.getD i4.toNat dEntry)) (And.intro g_4 (le_app 36 2 cEntry dEntry out3 ([(l0.getD i4.toNat dEntry)]))))))))) (ih _ _ _ r h)
    · obtain rfl := Option.some.inj h
      exact RunC.out [.n 2, .r [(3, .dec false)], .n 4] (by kernel_rfl) (Obs.of (by kernel_rfl) (nt g_1))
theorem cache_copied.run   {k : Nat} {l0 : (List TEntry)} {r : (List TEntry)} (h : cache_copied k l0 = some r) : RunC Try.prog Try.f39 cache_copied.t (cache_copied.s l0) (.sref 0 36 2 (r).length) [(oL true 36 2 cEntry dEntry (r))] := by
  unfold cache_copied at h
  exact RunC.go [.n 1, .r [(0, .obj (oL true 36 2 cEntry dEntry ([] : List TEntry)))], .n 1, .r [(0, .obj (oL true 36 2 cEntry dEntry ([] : List TEntry)))], .n 5, .k [0, 3, 4]] (by kernel_rfl) (Obs.of (by kernel_rfl) (And.intro (le_nil 36 2 cEntry dEntry) (le_nil 36 2 cEntry dEntry))) (cache_copied.p1.run k _ _ _ r h)
theorem cache_copied.p1.mono   : ∀ (k k' : Nat) (l0 : (List TEntry)) (i4 : Int) (out3 : (List TEntry)) (r : (List TEntry)), k ≤ k' → cache_copied.p1 k l0 i4 out3 = some r → cache_copied.p1 k' l0 i4 out3 = some r := by
  intro k
  induction k with
  | zero => intro k' l0 i4 out3 r hk h; simp [cache_copied.p1] at h
  | succ k ih =>
    intro k' l0 i4 out3 r hk h
    obtain ⟨k', rfl⟩ : ∃ m, k' = m + 1 := ⟨k' - 1, by omega⟩
    replace hk := Nat.le_of_succ_le_succ hk
    rw [cache_copied.p1] at h ⊢
    rcases ite_or h with ⟨g_1, h⟩ | ⟨g_1, h⟩
    · refine itp g_1 ?_
      obtain ⟨g_2, h⟩ := ite_some h
      refine itp g_2 ?_
      obtain ⟨g_3, h⟩ := ite_some h
      refine itp g_3 ?_
      obtain ⟨g_4, h⟩ := ite_some h
      refine itp g_4 ?_
      exact ih _ _ _ _ r hk h
    · refine itn g_1 ?_
      exact h
theorem cache_copied.mono   : ∀ (k k' : Nat) (l0 : (List TEntry)) (r : (List TEntry)), k ≤ k' → cache_copied k l0 = some r → cache_copied k' l0 = some r := by
  intro k k' l0 r hk h
  unfold cache_copied at h ⊢
  exact cache_copied.p1.mono _ _ _ _ _ r hk h
theorem cache_copied.spec {k : Nat} {l0 : (List TEntry)} {r : (List TEntry)} (h : cache_copied k l0 = some r) : Spec Try.prog 39 [.p (eL 2 cEntry dEntry l0)] (.sref 0 36 2 (r).length) [(oL true 36 2 cEntry dEntry (r))] :=
  spec_of mix Try.func39 (body := bodyOf Try.f39) (by kernel_rfl) (by kernel_rfl) (cache_copied.run h)
end Go.Proofs.YtjhnpaenhdbhpabV
set_option linter.unusedVariables false
set_option linter.unusedSimpArgs false
set_option maxRecDepth 100000
namespace Go.Proofs.YtjhnpaenhdbhpabV
open Go Go.RowKit
noncomputable def cache_duplicate  (k : Nat) (x0 : TCached) : Option TCached := (cache_copied k x0.f1).bind fun y_1 => (some (TCached.mk x0.f0 y_1 x0.f2))
noncomputable def cache_duplicate.t : List Item := [.code (bodyOf Try.f48)]
noncomputable def cache_duplicate.s (x0 : TCached) : St := ⟨frOf Try.f48.ntmps 0 [(0, .agg ((cCached x0).map .p))], []⟩
theorem cache_duplicate.run   {k : Nat} {x0 : TCached} {r : TCached} (h : cache_duplicate k x0 = some r) : RunC Try.prog Try.f48 cache_duplicate.t (cache_duplicate.s x0) (.agg ((cCached r).map .p)) [] := by
  unfold cache_duplicate at h
  obtain ⟨y_1, e_2, h⟩ := bind_or h
  obtain rfl := Option.some.inj h
  exact RunC.out [.n 3, .r [(2, .call (.sref 0 36 2 (y_1).length) [(oL true 36 2 cEntry dEntry y_1)])], .n 2] (by kernel_rfl) (Obs.of (by kernel_rfl) (cache_copied.spec e_2))
theorem cache_duplicate.mono   : ∀ (k k' : Nat) (x0 : TCached) (r : TCached), k ≤ k' → cache_duplicate k x0 = some r → cache_duplicate k' x0 = some r := by
  intro k k' x0 r hk h
  unfold cache_duplicate at h ⊢
  obtain ⟨y_1, e_2, h⟩ := bind_or h
  refine bnd (cache_copied.mono _ _ _ _ hk e_2) ?_
  exact h
theorem cache_duplicate.spec {k : Nat} {x0 : TCached} {r : TCached} (h : cache_duplicate k x0 = some r) : Spec Try.prog 48 [.agg ((cCached x0).map .p)] (.agg ((cCached r).map .p)) [] :=
  spec_of mix Try.func48 (body := bodyOf Try.f48) (by kernel_rfl) (by kernel_rfl) (cache_duplicate.run h)
end Go.Proofs.YtjhnpaenhdbhpabV
set_option linter.unusedVariables false
set_option linter.unusedSimpArgs false
set_option maxRecDepth 100000
namespace Go.Proofs.YtjhnpaenhdbhpabV
open Go Go.RowKit
noncomputable def cache_Expire.p1  : Nat → (List TCached) → Int → Int → TCache → (List TCached) → Option (List TCached)
  | 0, _, _, _, _, _ => none
  | k + 1, s1, day2, i8, c3b, out7 => if (decide (i8 < ((s1).length : Int))) = true then (if 0 ≤ i8 ∧ i8 < ((s1).length : Int) then (if (decide (day2 ≥ (s1.getD i8.toNat dCached).f2)) = true then (if (decide (day2 < (IntKind.i64.wrap ((s1.getD i8.toNat dCached).f2 + c3b.f3)))) = true then ((cache_duplicate k (s1.getD i8.toNat dCached)).bind fun y_14 => (if (out7).length + ([y_14]).length ≤ maxLen ∧ ((out7).length + ([y_14]).length) * 64 ≤ 140737488355328 then (cache_Expire.p1 k s1 day2 (IntKind.i64.wrap (i8 + 1)) c3b (out7 ++ ([y_14]))) else none)) else (cache_Expire.p1 k s1 day2 (IntKind.i64.wrap (i8 + 1)) c3b out7)) else (cache_Expire.p1 k s1 day2 (IntKind.i64.wrap (i8 + 1)) c3b out7)) else none) else (some out7)
noncomputable def cache_Expire  (k : Nat) (c0 : TCache) (s1 : (List TCached)) (day2 : Int) : Option (List TCached) := (cache_Valid k s1).bind fun y_1 => (if (!y_1) = true then (some ([] : List TCached)) else ((cache_inDays k c0.f3).bind fun y_4 => (if (!y_4) = true then (some ([] : List TCached)) else ((cache_inDays k day2).bind fun y_7 => (if (!y_7) = true then (some ([] : List TCached)) else (cache_Expire.p1 k s1 day2 0 c0 ([] : List TCached)))))))
noncomputable def cache_Expire.t : List Item := [.code (bodyOf Try.f25)]
noncomputable def cache_Expire.s (c0 : TCache) (s1 : (List TCached)) (day2 : Int) : St := ⟨frOf Try.f25.ntmps 0 [(0, .agg ((cCache c0).map .p)), (1, .p (eL 5 cCached dCached s1)), (2, .p (.int .i64 day2))], []⟩
noncomputable def cache_Expire.p1.t : List Item := nav 14 [false] cache_Expire.t
noncomputable def cache_Expire.p1.s (s1 : (List TCached)) (day2 : Int) (i8 : Int) (c3b : TCache) (out7 : (List TCached)) : St := ⟨frOf Try.f25.ntmps 0 [(1, .p (eL 5 cCached dCached s1)), (2, .p (.int .i64 day2)), (3, .ptr 0 0 0), (7, .sref 1 46 5 (out7).length), (8, .p (.int .i64 i8))], [.box ((cCache c3b).map .p), (oL true 46 5 cCached dCached out7)]⟩
theorem cache_Expire.p1.run   : ∀ (k : Nat) (s1 : (List TCached)) (day2 : Int) (i8 : Int) (c3b : TCache) (out7 : (List TCached)) (r : (List TCached)), cache_Expire.p1 k s1 day2 i8 c3b out7 = some r → RunC Try.prog Try.f25 cache_Expire.p1.t (cache_Expire.p1.s s1 day2 i8 c3b out7) (.sref 0 46 5 (r).length) [(oL true 46 5 cCached dCached (r))] := by
  intro k
  induction k with
  | zero => intro s1 day2 i8 c3b out7 r h; simp [cache_Expire.p1] at h
  | succ k ih =>
    intro s1 day2 i8 c3b out7 r h
    rw [cache_Expire.p1] at h
    rcases ite_or h with ⟨g_10, h⟩ | ⟨g_10, h⟩
    · obtain ⟨g_11, h⟩ := ite_some h
      rcases ite_or h with ⟨g_12, h⟩ | ⟨g_12, h⟩
      · rcases ite_or h with ⟨g_13, h⟩ | ⟨g_13, h⟩
        · obtain ⟨y_14, e_15, h⟩ := bind_or h
          obtain ⟨g_16, h⟩ := ite_some h
          exact RunC.go [.n 2, .r [(3, .dec true)], .n 5, .r [(7, .dec true), (18, .dec true)], .n 1, .r [(5, .call (.agg ((cCached y_14).map .p)) []), (6, .obj (oL true 46 5 cCached dCached [y_14])), (7, .obj (oL true 46 5 cCached dCached (out7 ++ ([y_14]))))], .n 3, .k [1, 2, 3, 7, 8]] (by kernel_rfl) (Obs.of (by kernel_rfl) (And.intro g_10 (And.intro g_11 (And.intro g_12 (And.intro g_11 (And.intro g_13 (And.intro g_11 (And.intro (cache_duplicate.spec e_15) (And.intro (le_one 46 5 cCached dCached y_14) (And.intro g_16 (le_app 46 5 cCached dCached out7 ([y_14])))))))))))) (ih _ _ _ _ _ r h)
        · exact RunC.go [.n 2, .r [(3, .dec true)], .n 5, .r [(7, .dec true), (18, .dec false)], .n 5, .k [1, 2, 3, 7, 8]] (by kernel_rfl) (Obs.of (by kernel_rfl) (And.intro g_10 (And.intro g_11 (And.intro g_12 (And.intro g_11 (nt g_13)))))) (ih _ _ _ _ _ r h)
      · exact RunC.go [.n 2, .r [(3, .dec true)], .n 5, .r [(7, .dec false)], .n 5, .k [1, 2, 3, 7, 8]] (by kernel_rfl) (Obs.of (by kernel_rfl) (And.intro g_10 (And.intro g_11 (nt g_12)))) (ih _ _ _ _ _ r h)
    · obtain rfl := Option.some.inj h
      exact RunC.out [.n 2, .r [(3, .dec false)], .n 4] (by kernel_rfl) (Obs.of (by kernel_rfl) (nt g_10))
theorem cache_Expire.run   {k : Nat} {c0 : TCache} {s1 : (List TCached)} {day2 : Int} {r : (List TCached)} (h : cache_Expire k c0 s1 day2 = some r) : RunC Try.prog Try.f25 cache_Expire.t (cache_Expire.s c0 s1 day2) (.sref 0 46 5 (r).length) [(oL true 46 5 cCached dCached (r))] := by
  unfold cache_Expire at h
  obtain ⟨y_1, e_2, h⟩ := bind_or h
  rcases ite_or h with ⟨g_3, h⟩ | ⟨g_3, h⟩
  · obtain rfl := Option.some.inj h
    exact RunC.out [.n 1, .r [(1, .obj (oL true 46 5 cCached dCached ([] : List TCached)))], .n 2, .r [(1, .call (.p (.bool y_1)) []), (3, .dec true)], .n 2, .r [(0, .obj (oL true 46 5 cCached dCached ([] : List TCached)))]] (by kernel_rfl) (Obs.of (by kernel_rfl) (And.intro (le_nil 46 5 cCached dCached) (And.intro (cache_Valid.spec e_2) (And.intro g_3 (le_nil 46 5 cCached dCached)))))
  · obtain ⟨y_4, e_5, h⟩ := bind_or h
    rcases ite_or h with ⟨g_6, h⟩ | ⟨g_6, h⟩
    · obtain rfl := Option.some.inj h
      exact RunC.out [.n 1, .r [(1, .obj (oL true 46 5 cCached dCached ([] : List TCached)))], .n 2, .r [(1, .call (.p (.bool y_1)) []), (3, .dec false), (6, .call (.p (.bool y_4)) []), (9, .dec true)], .n 2, .r [(0, .obj (oL true 46 5 cCached dCached ([] : List TCached)))]] (by kernel_rfl) (Obs.of (by kernel_rfl) (And.intro (le_nil 46 5 cCached dCached) (And.intro (cache_Valid.spec e_2) (And.intro (nt g_3) (And.intro (cache_inDays.spec e_5) (And.intro g_6 (le_nil 46 5 cCached dCached)))))))
    · obtain ⟨y_7, e_8, h⟩ := bind_or h
      rcases ite_or h with ⟨g_9, h⟩ | ⟨g_9, h⟩
      · obtain rfl := Option.some.inj h
        exact RunC.out [.n 1, .r [(1, .obj (oL true 46 5 cCached dCached ([] : List TCached)))], .n 2, .r [(1, .call (.p (.bool y_1)) []), (3, .dec false), (6, .call (.p (.bool y_4)) []), (9, .dec false), (11, .call (.p (.bool y_7)) []), (13, .dec true)], .n 2, .r [(0, .obj (oL true 46 5 cCached dCached ([] : List TCached)))]] (by kernel_rfl) (Obs.of (by kernel_rfl) (And.intro (le_nil 46 5 cCached dCached) (And.intro (cache_Valid.spec e_2) (And.intro (nt g_3) (And.intro (cache_inDays.spec e_5) (And.intro (nt g_6) (And.intro (cache_inDays.spec e_8) (And.intro g_9 (le_nil 46 5 cCached dCached)))))))))
      · exact RunC.go [.n 1, .r [(1, .obj (oL true 46 5 cCached dCached ([] : List TCached)))], .n 2, .r [(1, .call (.p (.bool y_1)) []), (3, .dec false), (6, .call (.p (.bool y_4)) []), (9, .dec false), (11, .call (.p (.bool y_7)) []), (13, .dec false)], .n 3, .r [(0, .obj (oL true 46 5 cCached dCached ([] : List TCached)))], .n 5, .k [1, 2, 3, 7, 8]] (by kernel_rfl) (Obs.of (by kernel_rfl) (And.intro (le_nil 46 5 cCached dCached) (And.intro (cache_Valid.spec e_2) (And.intro (nt g_3) (And.intro (cache_inDays.spec e_5) (And.intro (nt g_6) (And.intro (cache_inDays.spec e_8) (And.intro (nt g_9) (le_nil 46 5 cCached dCached))))))))) (cache_Expire.p1.run k _ _ _ _ _ r h)
theorem cache_Expire.p1.mono   : ∀ (k k' : Nat) (s1 : (List TCached)) (day2 : Int) (i8 : Int) (c3b : TCache) (out7 : (List TCached)) (r : (List TCached)), k ≤ k' → cache_Expire.p1 k s1 day2 i8 c3b out7 = some r → cache_Expire.p1 k' s1 day2 i8 c3b out7 = some r := by
  intro k
  induction k with
  | zero => intro k' s1 day2 i8 c3b out7 r hk h; simp [cache_Expire.p1] at h
  | succ k ih =>
    intro k' s1 day2 i8 c3b out7 r hk h
    obtain ⟨k', rfl⟩ : ∃ m, k' = m + 1 := ⟨k' - 1, by omega⟩
    replace hk := Nat.le_of_succ_le_succ hk
    rw [cache_Expire.p1] at h ⊢
    rcases ite_or h with ⟨g_10, h⟩ | ⟨g_10, h⟩
    · refine itp g_10 ?_
      obtain ⟨g_11, h⟩ := ite_some h
      refine itp g_11 ?_
      rcases ite_or h with ⟨g_12, h⟩ | ⟨g_12, h⟩
      · refine itp g_12 ?_
        rcases ite_or h with ⟨g_13, h⟩ | ⟨g_13, h⟩
        · refine itp g_13 ?_
          obtain ⟨y_14, e_15, h⟩ := bind_or h
          refine bnd (cache_duplicate.mono _ _ _ _ hk e_15) ?_
          obtain ⟨g_16, h⟩ := ite_some h
          refine itp g_16 ?_
          exact ih _ _ _ _ _ _ r hk h
        · refine itn g_13 ?_
          exact ih _ _ _ _ _ _ r hk h
      · refine itn g_12 ?_
        exact ih _ _ _ _ _ _ r hk h
    · refine itn g_10 ?_
      exact h
theorem cache_Expire.mono   : ∀ (k k' : Nat) (c0 : TCache) (s1 : (List TCached)) (day2 : Int) (r : (List TCached)), k ≤ k' → cache_Expire k c0 s1 day2 = some r → cache_Expire k' c0 s1 day2 = some r := by
  intro k k' c0 s1 day2 r hk h
  unfold cache_Expire at h ⊢
  obtain ⟨y_1, e_2, h⟩ := bind_or h
  refine bnd (cache_Valid.mono _ _ _ _ hk e_2) ?_
  rcases ite_or h with ⟨g_3, h⟩ | ⟨g_3, h⟩
  · refine itp g_3 ?_
    exact h
  · refine itn g_3 ?_
    obtain ⟨y_4, e_5, h⟩ := bind_or h
    refine bnd (cache_inDays.mono _ _ _ _ hk e_5) ?_
    rcases ite_or h with ⟨g_6, h⟩ | ⟨g_6, h⟩
    · refine itp g_6 ?_
      exact h
    · refine itn g_6 ?_
      obtain ⟨y_7, e_8, h⟩ := bind_or h
      refine bnd (cache_inDays.mono _ _ _ _ hk e_8) ?_
      rcases ite_or h with ⟨g_9, h⟩ | ⟨g_9, h⟩
      · refine itp g_9 ?_
        exact h
      · refine itn g_9 ?_
        exact cache_Expire.p1.mono _ _ _ _ _ _ _ r hk h
theorem cache_Expire.spec {k : Nat} {c0 : TCache} {s1 : (List TCached)} {day2 : Int} {r : (List TCached)} (h : cache_Expire k c0 s1 day2 = some r) : Spec Try.prog 25 [.agg ((cCache c0).map .p), .p (eL 5 cCached dCached s1), .p (.int .i64 day2)] (.sref 0 46 5 (r).length) [(oL true 46 5 cCached dCached (r))] :=
  spec_of mix Try.func25 (body := bodyOf Try.f25) (by kernel_rfl) (by kernel_rfl) (cache_Expire.run h)
end Go.Proofs.YtjhnpaenhdbhpabV
set_option linter.unusedVariables false
set_option linter.unusedSimpArgs false
set_option maxRecDepth 100000
namespace Go.Proofs.YtjhnpaenhdbhpabV
open Go Go.RowKit
noncomputable def cache_at  (k : Nat) (row0 : (List TValue)) (column1 : Int) : Option TValue := if (decide (column1 < 0)) = true then (some (TValue.mk 0 0 (⟨#[]⟩ : ByteArray))) else (if (decide (column1 ≥ ((row0).length : Int))) = true then (some (TValue.mk 0 0 (⟨#[]⟩ : ByteArray))) else (if 0 ≤ column1 ∧ column1 < ((row0).length : Int) then ((value_Clean k (row0.getD column1.toNat dValue)).bind fun y_4 => (some y_4)) else none))
noncomputable def cache_at.t : List Item := [.code (bodyOf Try.f38)]
noncomputable def cache_at.s (row0 : (List TValue)) (column1 : Int) : St := ⟨frOf Try.f38.ntmps 0 [(0, .p (eL 3 cValue dValue row0)), (1, .p (.int .i64 column1))], []⟩
theorem cache_at.run   {k : Nat} {row0 : (List TValue)} {column1 : Int} {r : TValue} (h : cache_at k row0 column1 = some r) : RunC Try.prog Try.f38 cache_at.t (cache_at.s row0 column1) (.agg ((cValue r).map .p)) [] := by
  unfold cache_at at h
  rcases ite_or h with ⟨g_1, h⟩ | ⟨g_1, h⟩
  · obtain rfl := Option.some.inj h
    exact RunC.out [.n 4, .r [(2, .dec true)], .n 3] (by kernel_rfl) (Obs.of (by kernel_rfl) g_1)
  · rcases ite_or h with ⟨g_2, h⟩ | ⟨g_2, h⟩
    · obtain rfl := Option.some.inj h
      exact RunC.out [.n 4, .r [(2, .dec false), (7, .dec true)], .n 3] (by kernel_rfl) (Obs.of (by kernel_rfl) (And.intro (nt g_1) g_2))
    · obtain ⟨g_3, h⟩ := ite_some h
      obtain ⟨y_4, e_5, h⟩ := bind_or h
      obtain rfl := Option.some.inj h
      exact RunC.out [.n 4, .r [(2, .dec false), (7, .dec false)], .n 3, .r [(4, .call (.agg ((cValue y_4).map .p)) [])]] (by kernel_rfl) (Obs.of (by kernel_rfl) (And.intro (nt g_1) (And.intro (nt g_2) (And.intro g_3 (value_Clean.spec e_5)))))
theorem cache_at.mono   : ∀ (k k' : Nat) (row0 : (List TValue)) (column1 : Int) (r : TValue), k ≤ k' → cache_at k row0 column1 = some r → cache_at k' row0 column1 = some r := by
  intro k k' row0 column1 r hk h
  unfold cache_at at h ⊢
  rcases ite_or h with ⟨g_1, h⟩ | ⟨g_1, h⟩
  · refine itp g_1 ?_
    exact h
  · refine itn g_1 ?_
    rcases ite_or h with ⟨g_2, h⟩ | ⟨g_2, h⟩
    · refine itp g_2 ?_
      exact h
    · refine itn g_2 ?_
      obtain ⟨g_3, h⟩ := ite_some h
      refine itp g_3 ?_
      obtain ⟨y_4, e_5, h⟩ := bind_or h
      refine bnd (value_Clean.mono _ _ _ _ hk e_5) ?_
      exact h
theorem cache_at.spec {k : Nat} {row0 : (List TValue)} {column1 : Int} {r : TValue} (h : cache_at k row0 column1 = some r) : Spec Try.prog 38 [.p (eL 3 cValue dValue row0), .p (.int .i64 column1)] (.agg ((cValue r).map .p)) [] :=
  spec_of mix Try.func38 (body := bodyOf Try.f38) (by kernel_rfl) (by kernel_rfl) (cache_at.run h)
end Go.Proofs.YtjhnpaenhdbhpabV
set_option linter.unusedVariables false
set_option linter.unusedSimpArgs false
set_option maxRecDepth 100000
namespace Go.Proofs.YtjhnpaenhdbhpabV
open Go Go.RowKit
noncomputable def cache_Select.p1  : Nat → (List TEntry) → Int → Int → TValue → (List TEntry) → Option (List TEntry)
  | 0, _, _, _, _, _ => none
  | k + 1, rows0, column1, i9, want7b, out8 => if (decide (i9 < ((rows0).length : Int))) = true then (if 0 ≤ i9 ∧ i9 < ((rows0).length : Int) then ((cache_at k ((rows0.getD i9.toNat dEntry).f0) column1).bind fun y_5 => (if ((y_5.f0 == want7b.f0) && ((y_5.f1 == want7b.f1) && ((y_5.f2.data.toList == want7b.f2.data.toList) && true))) = true then (if (out8).length + ([(rows0.getD i9.toNat dEntry)]).length ≤ maxLen ∧ ((out8).length + ([(rows0.getD i9.toNat dEntry)]).length) * 32 ≤ 140737488355328 then (cache_Select.p1 k rows0 column1 (IntKind.i64.wrap (i9 + 1)) want7b (out8 ++ ([(rows0.getD i9.toNat dEntry)]))) else none) else (cache_Select.p1 k rows0 column1 (IntKind.i64.wrap (i9 + 1)) want7b out8))) else none) else ((cache_copied k out8).bind fun y_9 => (some y_9))
noncomputable def cache_Select  (k : Nat) (rows0 : (List TEntry)) (column1 : Int) (v2 : TValue) : Option (List TEntry) := (value_Clean k v2).bind fun y_1 => (cache_Select.p1 k rows0 column1 0 y_1 ([] : List TEntry))
noncomputable def cache_Select.t : List Item := [.code (bodyOf Try.f14)]
noncomputable def cache_Select.s (rows0 : (List TEntry)) (column1 : Int) (v2 : TValue) : St := ⟨frOf Try.f14.ntmps 0 [(0, .p (eL 2 cEntry dEntry rows0)), (1, .p (.int .i64 column1)), (2, .agg ((cValue v2).map .p))], []⟩
noncomputable def cache_Select.p1.t : List Item := nav 11 [] cache_Select.t
noncomputable def cache_Select.p1.s (rows0 : (List TEntry)) (column1 : Int) (i9 : Int) (want7b : TValue) (out8 : (List TEntry)) : St := ⟨frOf Try.f14.ntmps 0 [(0, .p (eL 2 cEntry dEntry rows0)), (1, .p (.int .i64 column1)), (7, .ptr 0 0 0), (8, .sref 1 36 2 (out8).length), (9, .p (.int .i64 i9))], [.box ((cValue want7b).map .p), (oL true 36 2 cEntry dEntry out8)]⟩
theorem cache_Select.p1.run   : ∀ (k : Nat) (rows0 : (List TEntry)) (column1 : Int) (i9 : Int) (want7b : TValue) (out8 : (List TEntry)) (r : (List TEntry)), cache_Select.p1 k rows0 column1 i9 want7b out8 = some r → RunC Try.prog Try.f14 cache_Select.p1.t (cache_Select.p1.s rows0 column1 i9 want7b out8) (.sref 0 36 2 (r).length) [(oL true 36 2 cEntry dEntry (r))] := by
  intro k
  induction k with
  | zero => intro rows0 column1 i9 want7b out8 r h; simp [cache_Select.p1] at h
  | succ k ih =>
    intro rows0 column1 i9 want7b out8 r h
    rw [cache_Select.p1] at h
    rcases ite_or h with ⟨g_3, h⟩ | ⟨g_3, h⟩
    · obtain ⟨g_4, h⟩ := ite_some h
      obtain ⟨y_5, e_6, h⟩ := bind_or h
      rcases ite_or h with ⟨g_7, h⟩ | ⟨g_7, h⟩
      · obtain ⟨g_8, h⟩ := ite_some h
        exact RunC.go [.n 2, .r [(3, .dec true)], .n 5, .r [(6, .call (.agg ((cValue y_5).map .p)) []), (8, .dec true)], .n 1, .r [(5, .obj (oL true 36 2 cEntry dEntry [(rows0.getD i9.toNat dEntry)])), (6, .obj (oL true 36 2 cEntry dEntry (out8 ++ ([(rows0.getD i9.toNat dEntry)]))))], .n 3, .k [0, 1, 7, 8, 9]] (by kernel_rfl) (Obs.of (by kernel_rfl) (And.intro g_3 (And.intro g_4 (And.intro (cache_at.spec e_6) (And.intro g_7 (And.intro g_4 (And.intro (le_one 36 2 cEntry dEntry (rows0.getD i9.toNat dEntry)) (And.intro g_8 (le_app 36 2 cEntry dEntry out8 ([(rows0.getD i9.toNat dEntry)])))))))))) (ih _ _ _ _ _ r h)
      · exact RunC.go [.n 2, .r [(3, .dec true)], .n 5, .r [(6, .call (.agg ((cValue y_5).map .p)) []), (8, .dec false)], .n 5, .k [0, 1, 7, 8, 9]] (by kernel_rfl) (Obs.of (by kernel_rfl) (And.intro g_3 (And.intro g_4 (And.intro (cache_at.spec e_6) (nt g_7))))) (ih _ _ _ _ _ r h)
    · obtain ⟨y_9, e_10, h⟩ := bind_or h
      obtain rfl := Option.some.inj h
      exact RunC.out [.n 2, .r [(3, .dec false)], .n 3, .r [(1, .call (.sref 0 36 2 (y_9).length) [(oL true 36 2 cEntry dEntry y_9)])]] (by kernel_rfl) (Obs.of (by kernel_rfl) (And.intro (nt g_3) (cache_copied.spec e_10)))
theorem cache_Select.run   {k : Nat} {rows0 : (List TEntry)} {column1 : Int} {v2 : TValue} {r : (List TEntry)} (h : cache_Select k rows0 column1 v2 = some r) : RunC Try.prog Try.f14 cache_Select.t (cache_Select.s rows0 column1 v2) (.sref 0 36 2 (r).length) [(oL true 36 2 cEntry dEntry (r))] := by
  unfold cache_Select at h
  obtain ⟨y_1, e_2, h⟩ := bind_or h
  exact RunC.go [.n 1, .r [(1, .obj (oL true 36 2 cEntry dEntry ([] : List TEntry)))], .n 1, .r [(1, .call (.agg ((cValue y_1).map .p)) [])], .n 1, .r [(0, .obj (oL true 36 2 cEntry dEntry ([] : List TEntry)))], .n 5, .k [0, 1, 7, 8, 9]] (by kernel_rfl) (Obs.of (by kernel_rfl) (And.intro (le_nil 36 2 cEntry dEntry) (And.intro (value_Clean.spec e_2) (le_nil 36 2 cEntry dEntry)))) (cache_Select.p1.run k _ _ _ _ _ r h)
theorem cache_Select.p1.mono   : ∀ (k k' : Nat) (rows0 : (List TEntry)) (column1 : Int) (i9 : Int) (want7b : TValue) (out8 : (List TEntry)) (r : (List TEntry)), k ≤ k' → cache_Select.p1 k rows0 column1 i9 want7b out8 = some r → cache_Select.p1 k' rows0 column1 i9 want7b out8 = some r := by
  intro k
  induction k with
  | zero => intro k' rows0 column1 i9 want7b out8 r hk h; simp [cache_Select.p1] at h
  | succ k ih =>
    intro k' rows0 column1 i9 want7b out8 r hk h
    obtain ⟨k', rfl⟩ : ∃ m, k' = m + 1 := ⟨k' - 1, by omega⟩
    replace hk := Nat.le_of_succ_le_succ hk
    rw [cache_Select.p1] at h ⊢
    rcases ite_or h with ⟨g_3, h⟩ | ⟨g_3, h⟩
    · refine itp g_3 ?_
      obtain ⟨g_4, h⟩ := ite_some h
      refine itp g_4 ?_
      obtain ⟨y_5, e_6, h⟩ := bind_or h
      refine bnd (cache_at.mono _ _ _ _ _ hk e_6) ?_
      rcases ite_or h with ⟨g_7, h⟩ | ⟨g_7, h⟩
      · refine itp g_7 ?_
        obtain ⟨g_8, h⟩ := ite_some h
        refine itp g_8 ?_
        exact ih _ _ _ _ _ _ r hk h
      · refine itn g_7 ?_
        exact ih _ _ _ _ _ _ r hk h
    · refine itn g_3 ?_
      obtain ⟨y_9, e_10, h⟩ := bind_or h
      refine bnd (cache_copied.mono _ _ _ _ hk e_10) ?_
      exact h
theorem cache_Select.mono   : ∀ (k k' : Nat) (rows0 : (List TEntry)) (column1 : Int) (v2 : TValue) (r : (List TEntry)), k ≤ k' → cache_Select k rows0 column1 v2 = some r → cache_Select k' rows0 column1 v2 = some r := by
  intro k k' rows0 column1 v2 r hk h
  unfold cache_Select at h ⊢
  obtain ⟨y_1, e_2, h⟩ := bind_or h
  refine bnd (value_Clean.mono _ _ _ _ hk e_2) ?_
  exact cache_Select.p1.mono _ _ _ _ _ _ _ r hk h
theorem cache_Select.spec {k : Nat} {rows0 : (List TEntry)} {column1 : Int} {v2 : TValue} {r : (List TEntry)} (h : cache_Select k rows0 column1 v2 = some r) : Spec Try.prog 14 [.p (eL 2 cEntry dEntry rows0), .p (.int .i64 column1), .agg ((cValue v2).map .p)] (.sref 0 36 2 (r).length) [(oL true 36 2 cEntry dEntry (r))] :=
  spec_of mix Try.func14 (body := bodyOf Try.f14) (by kernel_rfl) (by kernel_rfl) (cache_Select.run h)
end Go.Proofs.YtjhnpaenhdbhpabV
set_option linter.unusedVariables false
set_option linter.unusedSimpArgs false
set_option maxRecDepth 100000
namespace Go.Proofs.YtjhnpaenhdbhpabV
open Go Go.RowKit
noncomputable def cache_Lookup.p3  : Nat → (List TEntry) → Int → Int → TCache → (List TCached) → TValue → Option ((List TCached) × (List TEntry) × Int)
  | 0, _, _, _, _, _, _ => none
  | k + 1, rows2, day4, i18, c5b, out13, want14b => if (decide (i18 < ((out13).length : Int))) = true then (if 0 ≤ i18 ∧ i18 < ((out13).length : Int) then ((value_Compare k ((out13.getD i18.toNat dCached).f0) want14b).bind fun y_23 => (if (decide (y_23 < 0)) = true then (cache_Lookup.p3 k rows2 day4 (IntKind.i64.wrap (i18 + 1)) c5b out13 want14b) else (if (out13).length + ([(TCached.mk (TValue.mk 0 0 (⟨#[]⟩ : ByteArray)) ([] : List TEntry) 0)]).length ≤ maxLen ∧ ((out13).length + ([(TCached.mk (TValue.mk 0 0 (⟨#[]⟩ : ByteArray)) ([] : List TEntry) 0)]).length) * 64 ≤ 140737488355328 then (if 0 ≤ (IntKind.i64.wrap (i18 + 1)) ∧ (IntKind.i64.wrap (i18 + 1)) ≤ (((out13 ++ ([(TCached.mk (TValue.mk 0 0 (⟨#[]⟩ : ByteArray)) ([] : List TEntry) 0)]))).length : Int) ∧ (((out13 ++ ([(TCached.mk (TValue.mk 0 0 (⟨#[]⟩ : ByteArray)) ([] : List TEntry) 0)]))).length : Int) ≤ (((out13 ++ ([(TCached.mk (TValue.mk 0 0 (⟨#[]⟩ : ByteArray)) ([] : List TEntry) 0)]))).length : Int) then (if 0 ≤ i18 ∧ i18 ≤ (((out13 ++ ([(TCached.mk (TValue.mk 0 0 (⟨#[]⟩ : ByteArray)) ([] : List TEntry) 0)]))).length : Int) ∧ (((out13 ++ ([(TCached.mk (TValue.mk 0 0 (⟨#[]⟩ : ByteArray)) ([] : List TEntry) 0)]))).length : Int) ≤ (((out13 ++ ([(TCached.mk (TValue.mk 0 0 (⟨#[]⟩ : ByteArray)) ([] : List TEntry) 0)]))).length : Int) then ((cache_Select k rows2 c5b.f2 want14b).bind fun y_29 => (if 0 ≤ i18 ∧ i18 < (((out13 ++ ([(TCached.mk (TValue.mk 0 0 (⟨#[]⟩ : ByteArray)) ([] : List TEntry) 0)]))).length : Int) then ((cache_copied k ((((copyL (out13 ++ ([(TCached.mk (TValue.mk 0 0 (⟨#[]⟩ : ByteArray)) ([] : List TEntry) 0)])) (IntKind.i64.wrap (i18 + 1)) (((out13 ++ ([(TCached.mk (TValue.mk 0 0 (⟨#[]⟩ : ByteArray)) ([] : List TEntry) 0)]))).length : Int) (subL (out13 ++ ([(TCached.mk (TValue.mk 0 0 (⟨#[]⟩ : ByteArray)) ([] : List TEntry) 0)])) i18 (((out13 ++ ([(TCached.mk (TValue.mk 0 0 (⟨#[]⟩ : ByteArray)) ([] : List TEntry) 0)]))).length : Int))).set i18.toNat (TCached.mk want14b y_29 day4)).getD i18.toNat dCached).f1)).bind fun y_32 => (some (((copyL (out13 ++ ([(TCached.mk (TValue.mk 0 0 (⟨#[]⟩ : ByteArray)) ([] : List TEntry) 0)])) (IntKind.i64.wrap (i18 + 1)) (((out13 ++ ([(TCached.mk (TValue.mk 0 0 (⟨#[]⟩ : ByteArray)) ([] : List TEntry) 0)]))).length : Int) (subL (out13 ++ ([(TCached.mk (TValue.mk 0 0 (⟨#[]⟩ : ByteArray)) ([] : List TEntry) 0)])) i18 (((out13 ++ ([(TCached.mk (TValue.mk 0 0 (⟨#[]⟩ : ByteArray)) ([] : List TEntry) 0)]))).length : Int))).set i18.toNat (TCached.mk want14b y_29 day4)), y_32, 0))) else none)) else none) else none) else none))) else none) else (if (out13).length + ([(TCached.mk (TValue.mk 0 0 (⟨#[]⟩ : ByteArray)) ([] : List TEntry) 0)]).length ≤ maxLen ∧ ((out13).length + ([(TCached.mk (TValue.mk 0 0 (⟨#[]⟩ : ByteArray)) ([] : List TEntry) 0)]).length) * 64 ≤ 140737488355328 then (if 0 ≤ (IntKind.i64.wrap (i18 + 1)) ∧ (IntKind.i64.wrap (i18 + 1)) ≤ (((out13 ++ ([(TCached.mk (TValue.mk 0 0 (⟨#[]⟩ : ByteArray)) ([] : List TEntry) 0)]))).length : Int) ∧ (((out13 ++ ([(TCached.mk (TValue.mk 0 0 (⟨#[]⟩ : ByteArray)) ([] : List TEntry) 0)]))).length : Int) ≤ (((out13 ++ ([(TCached.mk (TValue.mk 0 0 (⟨#[]⟩ : ByteArray)) ([] : List TEntry) 0)]))).length : Int) then (if 0 ≤ i18 ∧ i18 ≤ (((out13 ++ ([(TCached.mk (TValue.mk 0 0 (⟨#[]⟩ : ByteArray)) ([] : List TEntry) 0)]))).length : Int) ∧ (((out13 ++ ([(TCached.mk (TValue.mk 0 0 (⟨#[]⟩ : ByteArray)) ([] : List TEntry) 0)]))).length : Int) ≤ (((out13 ++ ([(TCached.mk (TValue.mk 0 0 (⟨#[]⟩ : ByteArray)) ([] : List TEntry) 0)]))).length : Int) then ((cache_Select k rows2 c5b.f2 want14b).bind fun y_37 => (if 0 ≤ i18 ∧ i18 < (((out13 ++ ([(TCached.mk (TValue.mk 0 0 (⟨#[]⟩ : ByteArray)) ([] : List TEntry) 0)]))).length : Int) then ((cache_copied k ((((copyL (out13 ++ ([(TCached.mk (TValue.mk 0 0 (⟨#[]⟩ : ByteArray)) ([] : List TEntry) 0)])) (IntKind.i64.wrap (i18 + 1)) (((out13 ++ ([(TCached.mk (TValue.mk 0 0 (⟨#[]⟩ : ByteArray)) ([] : List TEntry) 0)]))).length : Int) (subL (out13 ++ ([(TCached.mk (TValue.mk 0 0 (⟨#[]⟩ : ByteArray)) ([] : List TEntry) 0)])) i18 (((out13 ++ ([(TCached.mk (TValue.mk 0 0 (⟨#[]⟩ : ByteArray)) ([] : List TEntry) 0)]))).length : Int))).set i18.toNat (TCached.mk want14b y_37 day4)).getD i18.toNat dCached).f1)).bind fun y_40 => (some (((copyL (out13 ++ ([(TCached.mk (TValue.mk 0 0 (⟨#[]⟩ : ByteArray)) ([] : List TEntry) 0)])) (IntKind.i64.wrap (i18 + 1)) (((out13 ++ ([(TCached.mk (TValue.mk 0 0 (⟨#[]⟩ : ByteArray)) ([] : List TEntry) 0)]))).length : Int) (subL (out13 ++ ([(TCached.mk (TValue.mk 0 0 (⟨#[]⟩ : ByteArray)) ([] : List TEntry) 0)])) i18 (((out13 ++ ([(TCached.mk (TValue.mk 0 0 (⟨#[]⟩ : ByteArray)) ([] : List TEntry) 0)]))).length : Int))).set i18.toNat (TCached.mk want14b y_37 day4)), y_40, 0))) else none)) else none) else none) else none)
noncomputable def cache_Lookup.p2  : Nat → (List TEntry) → Int → Int → Int → TCache → (List TCached) → TValue → Option ((List TCached) × (List TEntry) × Int)
  | 0, _, _, _, _, _, _, _ => none
  | k + 1, rows2, day4, oldest16, i17, c5b, out13, want14b => if (decide (i17 < ((out13).length : Int))) = true then (if 0 ≤ i17 ∧ i17 < ((out13).length : Int) then (if 0 ≤ oldest16 ∧ oldest16 < ((out13).length : Int) then (if (decide ((out13.getD i17.toNat dCached).f2 < (out13.getD oldest16.toNat dCached).f2)) = true then (cache_Lookup.p2 k rows2 day4 i17 (IntKind.i64.wrap (i17 + 1)) c5b out13 want14b) else (cache_Lookup.p2 k rows2 day4 oldest16 (IntKind.i64.wrap (i17 + 1)) c5b out13 want14b)) else none) else none) else (if 0 ≤ (0 : Int) ∧ (0 : Int) ≤ oldest16 ∧ oldest16 ≤ ((out13).length : Int) then (if 0 ≤ (IntKind.i64.wrap (oldest16 + 1)) ∧ (IntKind.i64.wrap (oldest16 + 1)) ≤ ((out13).length : Int) ∧ ((out13).length : Int) ≤ ((out13).length : Int) then (if (oldest16.toNat - (0 : Int).toNat) + (((out13).length : Int).toNat - (IntKind.i64.wrap (oldest16 + 1)).toNat) ≤ maxLen ∧ ((oldest16.toNat - (0 : Int).toNat) + (((out13).length : Int).toNat - (IntKind.i64.wrap (oldest16 + 1)).toNat)) * 64 ≤ 140737488355328 then (cache_Lookup.p3 k rows2 day4 0 c5b (subL out13 0 oldest16 ++ subL out13 (IntKind.i64.wrap (oldest16 + 1)) ((out13).length : Int)) want14b) else none) else none) else none)
noncomputable def cache_Lookup.p1  : Nat → (List TEntry) → Int → Int → TCache → (List TCached) → TValue → Option ((List TCached) × (List TEntry) × Int)
  | 0, _, _, _, _, _, _ => none
  | k + 1, rows2, day4, i15, c5b, out13, want14b => if (decide (i15 < ((out13).length : Int))) = true then (if 0 ≤ i15 ∧ i15 < ((out13).length : Int) then (if (((out13.getD i15.toNat dCached).f0.f0 == want14b.f0) && (((out13.getD i15.toNat dCached).f0.f1 == want14b.f1) && ((((out13.getD i15.toNat dCached).f0.f2).data.toList == want14b.f2.data.toList) && true))) = true then ((cache_copied k ((out13.getD i15.toNat dCached).f1)).bind fun y_11 => (some (out13, y_11, 0))) else (cache_Lookup.p1 k rows2 day4 (IntKind.i64.wrap (i15 + 1)) c5b out13 want14b)) else none) else (if (decide (((out13).length : Int) ≥ 16)) = true then (cache_Lookup.p2 k rows2 day4 0 1 c5b out13 want14b) else (cache_Lookup.p3 k rows2 day4 0 c5b out13 want14b))
noncomputable def cache_Lookup  (k : Nat) (c0 : TCache) (s1 : (List TCached)) (rows2 : (List TEntry)) (v3 : TValue) (day4 : Int) : Option ((List TCached) × (List TEntry) × Int) := (cache_usable k c0 s1 rows2 day4).bind fun y_1 => (if (!y_1) = true then (some (([] : List TCached), ([] : List TEntry), 1)) else ((cache_Expire k c0 s1 day4).bind fun y_4 => ((value_Clean k v3).bind fun y_6 => (cache_Lookup.p1 k rows2 day4 0 c0 y_4 y_6))))
noncomputable def cache_Lookup.t : List Item := [.code (bodyOf Try.f17)]
noncomputable def cache_Lookup.s (c0 : TCache) (s1 : (List TCached)) (rows2 : (List TEntry)) (v3 : TValue) (day4 : Int) : St := ⟨frOf Try.f17.ntmps 0 [(0, .agg ((cCache c0).map .p)), (1, .p (eL 5 cCached dCached s1)), (2, .p (eL 2 cEntry dEntry rows2)), (3, .agg ((cValue v3).map .p)), (4, .p (.int .i64 day4))], []⟩
noncomputable def cache_Lookup.p1.t : List Item := nav 16 [false] cache_Lookup.t
noncomputable def cache_Lookup.p1.s (rows2 : (List TEntry)) (day4 : Int) (i15 : Int) (c5b : TCache) (out13 : (List TCached)) (want14b : TValue) : St := ⟨frOf Try.f17.ntmps 0 [(2, .p (eL 2 cEntry dEntry rows2)), (4, .p (.int .i64 day4)), (5, .ptr 0 0 0), (13, .sref 1 46 5 (out13).length), (14, .ptr 2 0 0), (15, .p (.int .i64 i15))], [.box ((cCache c5b).map .p), (oL true 46 5 cCached dCached out13), .box ((cValue want14b).map .p)]⟩
noncomputable def cache_Lookup.p2.t : List Item := nav 16 [false, true] cache_Lookup.p1.t
noncomputable def cache_Lookup.p2.s (rows2 : (List TEntry)) (day4 : Int) (oldest16 : Int) (i17 : Int) (c5b : TCache) (out13 : (List TCached)) (want14b : TValue) : St := ⟨frOf Try.f17.ntmps 0 [(2, .p (eL 2 cEntry dEntry rows2)), (4, .p (.int .i64 day4)), (5, .ptr 0 0 0), (13, .sref 1 46 5 (out13).length), (14, .ptr 2 0 0), (16, .p (.int .i64 oldest16)), (17, .p (.int .i64 i17))], [.box ((cCache c5b).map .p), (oL true 46 5 cCached dCached out13), .box ((cValue want14b).map .p)]⟩
noncomputable def cache_Lookup.p3.t : List Item := nav 11 [false] cache_Lookup.p2.t
noncomputable def cache_Lookup.p3.s (rows2 : (List TEntry)) (day4 : Int) (i18 : Int) (c5b : TCache) (out13 : (List TCached)) (want14b : TValue) : St := ⟨frOf Try.f17.ntmps 0 [(2, .p (eL 2 cEntry dEntry rows2)), (4, .p (.int .i64 day4)), (5, .ptr 0 0 0), (13, .sref 1 46 5 (out13).length), (14, .ptr 2 0 0), (18, .p (.int .i64 i18))], [.box ((cCache c5b).map .p), (oL true 46 5 cCached dCached out13), .box ((cValue want14b).map .p)]⟩
theorem cache_Lookup.p3.run   : ∀ (k : Nat) (rows2 : (List TEntry)) (day4 : Int) (i18 : Int) (c5b : TCache) (out13 : (List TCached)) (want14b : TValue) (r : ((List TCached) × (List TEntry) × Int)), cache_Lookup.p3 k rows2 day4 i18 c5b out13 want14b = some r → RunC Try.prog Try.f17 cache_Lookup.p3.t (cache_Lookup.p3.s rows2 day4 i18 c5b out13 want14b) (.tup [.sref 0 46 5 (r.1).length, .sref 1 36 2 (r.2.1).length, .p (.int .i64 r.2.2)]) [(oL true 46 5 cCached dCached (r.1)), (oL true 36 2 cEntry dEntry (r.2.1))] := by
  intro k
  induction k with
  | zero => intro rows2 day4 i18 c5b out13 want14b r h; simp [cache_Lookup.p3] at h
  | succ k ih =>
    intro rows2 day4 i18 c5b out13 want14b r h
    rw [cache_Lookup.p3] at h
    rcases ite_or h with ⟨g_21, h⟩ | ⟨g_21, h⟩
    · obtain ⟨g_22, h⟩ := ite_some h
      obtain ⟨y_23, e_24, h⟩ := bind_or h
      rcases ite_or h with ⟨g_25, h⟩ | ⟨g_25, h⟩
      · exact RunC.go [.n 2, .r [(4, .dec true), (11, .call (.p (.int .i64 y_23)) []), (13, .dec true)], .n 6, .k [2, 4, 5, 13, 14, 18]] (by kernel_rfl) (Obs.of (by kernel_rfl) (And.intro g_21 (And.intro g_22 (And.intro (value_Compare.spec e_24) g_25)))) (ih _ _ _ _ _ _ r h)
      · obtain ⟨g_26, h⟩ := ite_some h
        obtain ⟨g_27, h⟩ := ite_some h
        obtain ⟨g_28, h⟩ := ite_some h
        obtain ⟨y_29, e_30, h⟩ := bind_or h
        obtain ⟨g_31, h⟩ := ite_some h
        obtain ⟨y_32, e_33, h⟩ := bind_or h
        obtain rfl := Option.some.inj h
        exact RunC.out [.n 2, .r [(4, .dec true), (11, .call (.p (.int .i64 y_23)) []), (13, .dec false)], .n 3, .r [(1, .fv (.agg [.p (.int .i64 0), .p (.int .i64 0), .p (.str (⟨#[]⟩ : ByteArray)), .p (eL 2 cEntry dEntry ([] : List TEntry)), .p (.int .i64 0)])), (2, .obj (oL true 46 5 cCached dCached [(TCached.mk (TValue.mk 0 0 (⟨#[]⟩ : ByteArray)) ([] : List TEntry) 0)])), (3, .obj (oL true 46 5 cCached dCached (out13 ++ ([(TCached.mk (TValue.mk 0 0 (⟨#[]⟩ : ByteArray)) ([] : List TEntry) 0)]))))], .n 1, .r [(7, .obj (oL true 46 5 cCached dCached (copyL (out13 ++ ([(TCached.mk (TValue.mk 0 0 (⟨#[]⟩ : ByteArray)) ([] : List TEntry) 0)])) (IntKind.i64.wrap (i18 + 1)) (((out13 ++ ([(TCached.mk (TValue.mk 0 0 (⟨#[]⟩ : ByteArray)) ([] : List TEntry) 0)]))).length : Int) (subL (out13 ++ ([(TCached.mk (TValue.mk 0 0 (⟨#[]⟩ : ByteArray)) ([] : List TEntry) 0)])) i18 (((out13 ++ ([(TCached.mk (TValue.mk 0 0 (⟨#[]⟩ : ByteArray)) ([] : List TEntry) 0)]))).length : Int)))))], .n 1, .r [(7, .call (.sref 0 36 2 (y_29).length) [(oL true 36 2 cEntry dEntry y_29)]), (11, .obj (oL true 46 5 cCached dCached ((copyL (out13 ++ ([(TCached.mk (TValue.mk 0 0 (⟨#[]⟩ : ByteArray)) ([] : List TEntry) 0)])) (IntKind.i64.wrap (i18 + 1)) (((out13 ++ ([(TCached.mk (TValue.mk 0 0 (⟨#[]⟩ : ByteArray)) ([] : List TEntry) 0)]))).length : Int) (subL (out13 ++ ([(TCached.mk (TValue.mk 0 0 (⟨#[]⟩ : ByteArray)) ([] : List TEntry) 0)])) i18 (((out13 ++ ([(TCached.mk (TValue.mk 0 0 (⟨#[]⟩ : ByteArray)) ([] : List TEntry) 0)]))).length : Int))).set i18.toNat (TCached.mk want14b y_29 day4))))], .n 1, .r [(6, .call (.sref 0 36 2 (y_32).length) [(oL true 36 2 cEntry dEntry y_32)])]] (by kernel_rfl) (Obs.of (by kernel_rfl) (And.intro g_21 (And.intro g_22 (And.intro (value_Compare.spec e_24) (And.intro (nt g_25) (And.intro (fle_agg (fls_cons (fle_rfl (.p (.int .i64 0))) (fls_cons (fle_rfl (.p (.int .i64 0))) (fls_cons (fle_rfl (.p (.str (⟨#[]⟩ : ByteArray)))) (fls_cons (fle_nil 2 cEntry dEntry) (fls_cons (fle_rfl (.p (.int .i64 0))) fls_nil)))))) (And.intro (le_one 46 5 cCached dCached (TCached.mk (TValue.mk 0 0 (⟨#[]⟩ : ByteArray)) ([] : List TEntry) 0)) (And.intro (And.intro g_26 (le_app 46 5 cCached dCached out13 ([(TCached.mk (TValue.mk 0 0 (⟨#[]⟩ : ByteArray)) ([] : List TEntry) 0)]))) (And.intro g_27 (And.intro g_28 (And.intro (le_copySS 46 5 cCached dCached (out13 ++ ([(TCached.mk (TValue.mk 0 0 (⟨#[]⟩ : ByteArray)) ([] : List TEntry) 0)])) (out13 ++ ([(TCached.mk (TValue.mk 0 0 (⟨#[]⟩ : ByteArray)) ([] : List TEntry) 0)])) (IntKind.i64.wrap (i18 + 1)) (((out13 ++ ([(TCached.mk (TValue.mk 0 0 (⟨#[]⟩ : ByteArray)) ([] : List TEntry) 0)]))).length : Int) i18 (((out13 ++ ([(TCached.mk (TValue.mk 0 0 (⟨#[]⟩ : ByteArray)) ([] : List TEntry) 0)]))).length : Int) g_27 g_28) (And.intro (cache_Select.spec e_30) (And.intro g_31 (And.intro (le_set 46 5 cCached dCached (copyL (out13 ++ ([(TCached.mk (TValue.mk 0 0 (⟨#[]⟩ : ByteArray)) ([] : List TEntry) 0)])) (IntKind.i64.wrap (i18 + 1)) (((out13 ++ ([(TCached.mk (TValue.mk 0 0 (⟨#[]⟩ : ByteArray)) ([] : List TEntry) 0)]))).length : Int) (subL (out13 ++ ([(TCached.mk (TValue.mk 0 0 (⟨#[]⟩ : ByteArray)) ([] : List TEntry) 0)])) i18 (((out13 ++ ([(TCached.mk (TValue.mk 0 0 (⟨#[]⟩ : ByteArray)) ([] : List TEntry) 0)]))).length : Int))) (TCached.mk want14b y_29 day4) i18.toNat rfl) (And.intro g_31 (cache_copied.spec e_33))))))))))))))))
    · obtain ⟨g_34, h⟩ := ite_some h
      obtain ⟨g_35, h⟩ := ite_some h
      obtain ⟨g_36, h⟩ := ite_some h
      obtain ⟨y_37, e_38, h⟩ := bind_or h
      obtain ⟨g_39, h⟩ := ite_some h
      obtain ⟨y_40, e_41, h⟩ := bind_or h
      obtain rfl := Option.some.inj h
      exact RunC.out [.n 2, .r [(4, .dec false)], .n 3, .r [(1, .fv (.agg [.p (.int .i64 0), .p (.int .i64 0), .p (.str (⟨#[]⟩ : ByteArray)), .p (eL 2 cEntry dEntry ([] : List TEntry)), .p (.int .i64 0)])), (2, .obj (oL true 46 5 cCached dCached [(TCached.mk (TValue.mk 0 0 (⟨#[]⟩ : ByteArray)) ([] : List TEntry) 0)])), (3, .obj (oL true 46 5 cCached dCached (out13 ++ ([(TCached.mk (TValue.mk 0 0 (⟨#[]⟩ : ByteArray)) ([] : List TEntry) 0)]))))], .n 1, .r [(7, .obj (oL true 46 5 cCached dCached (copyL (out13 ++ ([(TCached.mk (TValue.mk 0 0 (⟨#[]⟩ : ByteArray)) ([] : List TEntry) 0)])) (IntKind.i64.wrap (i18 + 1)) (((out13 ++ ([(TCached.mk (TValue.mk 0 0 (⟨#[]⟩ : ByteArray)) ([] : List TEntry) 0)]))).length : Int) (subL (out13 ++ ([(TCached.mk (TValue.mk 0 0 (⟨#[]⟩ : ByteArray)) ([] : List TEntry) 0)])) i18 (((out13 ++ ([(TCached.mk (TValue.mk 0 0 (⟨#[]⟩ : ByteArray)) ([] : List TEntry) 0)]))).length : Int)))))], .n 1, .r [(7, .call (.sref 0 36 2 (y_37).length) [(oL true 36 2 cEntry dEntry y_37)]), (11, .obj (oL true 46 5 cCached dCached ((copyL (out13 ++ ([(TCached.mk (TValue.mk 0 0 (⟨#[]⟩ : ByteArray)) ([] : List TEntry) 0)])) (IntKind.i64.wrap (i18 + 1)) (((out13 ++ ([(TCached.mk (TValue.mk 0 0 (⟨#[]⟩ : ByteArray)) ([] : List TEntry) 0)]))).length : Int) (subL (out13 ++ ([(TCached.mk (TValue.mk 0 0 (⟨#[]⟩ : ByteArray)) ([] : List TEntry) 0)])) i18 (((out13 ++ ([(TCached.mk (TValue.mk 0 0 (⟨#[]⟩ : ByteArray)) ([] : List TEntry) 0)]))).length : Int))).set i18.toNat (TCached.mk want14b y_37 day4))))], .n 1, .r [(6, .call (.sref 0 36 2 (y_40).length) [(oL true 36 2 cEntry dEntry y_40)])]] (by kernel_rfl) (Obs.of (by kernel_rfl) (And.intro (nt g_21) (And.intro (fle_agg (fls_cons (fle_rfl (.p (.int .i64 0))) (fls_cons (fle_rfl (.p (.int .i64 0))) (fls_cons (fle_rfl (.p (.str (⟨#[]⟩ : ByteArray)))) (fls_cons (fle_nil 2 cEntry dEntry) (fls_cons (fle_rfl (.p (.int .i64 0))) fls_nil)))))) (And.intro (le_one 46 5 cCached dCached (TCached.mk (TValue.mk 0 0 (⟨#[]⟩ : ByteArray)) ([] : List TEntry) 0)) (And.intro (And.intro g_34 (le_app 46 5 cCached dCached out13 ([(TCached.mk (TValue.mk 0 0 (⟨#[]⟩ : ByteArray)) ([] : List TEntry) 0)]))) (And.intro g_35 (And.intro g_36 (And.intro (le_copySS 46 5 cCached dCached (out13 ++ ([(TCached.mk (TValue.mk 0 0 (⟨#[]⟩ : ByteArray)) ([] : List TEntry) 0)])) (out13 ++ ([(TCached.mk (TValue.mk 0 0 (⟨#[]⟩ : ByteArray)) ([] : List TEntry) 0)])) (IntKind.i64.wrap (i18 + 1)) (((out13 ++ ([(TCached.mk (TValue.mk 0 0 (⟨#[]⟩ : ByteArray)) ([] : List TEntry) 0)]))).length : Int) i18 (((out13 ++ ([(TCached.mk (TValue.mk 0 0 (⟨#[]⟩ : ByteArray)) ([] : List TEntry) 0)]))).length : Int) g_35 g_36) (And.intro (cache_Select.spec e_38) (And.intro g_39 (And.intro (le_set 46 5 cCached dCached (copyL (out13 ++ ([(TCached.mk (TValue.mk 0 0 (⟨#[]⟩ : ByteArray)) ([] : List TEntry) 0)])) (IntKind.i64.wrap (i18 + 1)) (((out13 ++ ([(TCached.mk (TValue.mk 0 0 (⟨#[]⟩ : ByteArray)) ([] : List TEntry) 0)]))).length : Int) (subL (out13 ++ ([(TCached.mk (TValue.mk 0 0 (⟨#[]⟩ : ByteArray)) ([] : List TEntry) 0)])) i18 (((out13 ++ ([(TCached.mk (TValue.mk 0 0 (⟨#[]⟩ : ByteArray)) ([] : List TEntry) 0)]))).length : Int))) (TCached.mk want14b y_37 day4) i18.toNat rfl) (And.intro g_39 (cache_copied.spec e_41)))))))))))))
theorem cache_Lookup.p2.run   : ∀ (k : Nat) (rows2 : (List TEntry)) (day4 : Int) (oldest16 : Int) (i17 : Int) (c5b : TCache) (out13 : (List TCached)) (want14b : TValue) (r : ((List TCached) × (List TEntry) × Int)), cache_Lookup.p2 k rows2 day4 oldest16 i17 c5b out13 want14b = some r → RunC Try.prog Try.f17 cache_Lookup.p2.t (cache_Lookup.p2.s rows2 day4 oldest16 i17 c5b out13 want14b) (.tup [.sref 0 46 5 (r.1).length, .sref 1 36 2 (r.2.1).length, .p (.int .i64 r.2.2)]) [(oL true 46 5 cCached dCached (r.1)), (oL true 36 2 cEntry dEntry (r.2.1))] := by
  intro k
  induction k with
  | zero => intro rows2 day4 oldest16 i17 c5b out13 want14b r h; simp [cache_Lookup.p2] at h
  | succ k ih =>
    intro rows2 day4 oldest16 i17 c5b out13 want14b r h
    rw [cache_Lookup.p2] at h
    rcases ite_or h with ⟨g_14, h⟩ | ⟨g_14, h⟩
    · obtain ⟨g_15, h⟩ := ite_some h
      obtain ⟨g_16, h⟩ := ite_some h
      rcases ite_or h with ⟨g_17, h⟩ | ⟨g_17, h⟩
      · exact RunC.go [.n 2, .r [(3, .dec true)], .n 5, .r [(10, .dec true)], .n 5, .k [2, 4, 5, 13, 14, 16, 17]] (by kernel_rfl) (Obs.of (by kernel_rfl) (And.intro g_14 (And.intro g_15 (And.intro g_16 g_17)))) (ih _ _ _ _ _ _ _ r h)
      · exact RunC.go [.n 2, .r [(3, .dec true)], .n 5, .r [(10, .dec false)], .n 5, .k [2, 4, 5, 13, 14, 16, 17]] (by kernel_rfl) (Obs.of (by kernel_rfl) (And.intro g_14 (And.intro g_15 (And.intro g_16 (nt g_17))))) (ih _ _ _ _ _ _ _ r h)
    · obtain ⟨g_18, h⟩ := ite_some h
      obtain ⟨g_19, h⟩ := ite_some h
      obtain ⟨g_20, h⟩ := ite_some h
      exact RunC.go [.n 2, .r [(3, .dec false)], .n 2, .r [(7, .obj (oL true 46 5 cCached dCached (subL out13 0 oldest16 ++ subL out13 (IntKind.i64.wrap (oldest16 + 1)) ((out13).length : Int))))], .n 5, .k [2, 4, 5, 13, 14, 18]] (by kernel_rfl) (Obs.of (by kernel_rfl) (And.intro (nt g_14) (And.intro g_18 (And.intro g_19 (And.intro g_20 (le_appSS 46 5 cCached dCached out13 out13 oldest16 (IntKind.i64.wrap (oldest16 + 1)) ((out13).length : Int) g_18 g_19)))))) (cache_Lookup.p3.run k _ _ _ _ _ _ r h)
theorem cache_Lookup.p1.run   : ∀ (k : Nat) (rows2 : (List TEntry)) (day4 : Int) (i15 : Int) (c5b : TCache) (out13 : (List TCached)) (want14b : TValue) (r : ((List TCached) × (List TEntry) × Int)), cache_Lookup.p1 k rows2 day4 i15 c5b out13 want14b = some r → RunC Try.prog Try.f17 cache_Lookup.p1.t (cache_Lookup.p1.s rows2 day4 i15 c5b out13 want14b) (.tup [.sref 0 46 5 (r.1).length, .sref 1 36 2 (r.2.1).length, .p (.int .i64 r.2.2)]) [(oL true 46 5 cCached dCached (r.1)), (oL true 36 2 cEntry dEntry (r.2.1))] := by
  intro k
  induction k with
  | zero => intro rows2 day4 i15 c5b out13 want14b r h; simp [cache_Lookup.p1] at h
  | succ k ih =>
    intro rows2 day4 i15 c5b out13 want14b r h
    rw [cache_Lookup.p1] at h
    rcases ite_or h with ⟨g_8, h⟩ | ⟨g_8, h⟩
    · obtain ⟨g_9, h⟩ := ite_some h
      rcases ite_or h with ⟨g_10, h⟩ | ⟨g_10, h⟩
      · obtain ⟨y_11, e_12, h⟩ := bind_or h
        obtain rfl := Option.some.inj h
        exact RunC.out [.n 2, .r [(3, .dec true)], .n 5, .r [(6, .dec true)], .n 2, .r [(6, .call (.sref 0 36 2 (y_11).length) [(oL true 36 2 cEntry dEntry y_11)])]] (by kernel_rfl) (Obs.of (by kernel_rfl) (And.intro g_8 (And.intro g_9 (And.intro g_10 (And.intro g_9 (cache_copied.spec e_12))))))
      · exact RunC.go [.n 2, .r [(3, .dec true)], .n 5, .r [(6, .dec false)], .n 5, .k [2, 4, 5, 13, 14, 15]] (by kernel_rfl) (Obs.of (by kernel_rfl) (And.intro g_8 (And.intro g_9 (nt g_10)))) (ih _ _ _ _ _ _ r h)
    · rcases ite_or h with ⟨g_13, h⟩ | ⟨g_13, h⟩
      · exact RunC.go [.n 2, .r [(3, .dec false)], .n 4, .r [(2, .dec true)], .n 8, .k [2, 4, 5, 13, 14, 16, 17]] (by kernel_rfl) (Obs.of (by kernel_rfl) (And.intro (nt g_8) g_13)) (cache_Lookup.p2.run k _ _ _ _ _ _ _ r h)
      · exact RunC.go [.n 2, .r [(3, .dec false)], .n 4, .r [(2, .dec false)], .n 7, .k [2, 4, 5, 13, 14, 18]] (by kernel_rfl) (Obs.of (by kernel_rfl) (And.intro (nt g_8) (nt g_13))) (cache_Lookup.p3.run k _ _ _ _ _ _ r h)
theorem cache_Lookup.run   {k : Nat} {c0 : TCache} {s1 : (List TCached)} {rows2 : (List TEntry)} {v3 : TValue} {day4 : Int} {r : ((List TCached) × (List TEntry) × Int)} (h : cache_Lookup k c0 s1 rows2 v3 day4 = some r) : RunC Try.prog Try.f17 cache_Lookup.t (cache_Lookup.s c0 s1 rows2 v3 day4) (.tup [.sref 0 46 5 (r.1).length, .sref 1 36 2 (r.2.1).length, .p (.int .i64 r.2.2)]) [(oL true 46 5 cCached dCached (r.1)), (oL true 36 2 cEntry dEntry (r.2.1))] := by
  unfold cache_Lookup at h
  obtain ⟨y_1, e_2, h⟩ := bind_or h
  rcases ite_or h with ⟨g_3, h⟩ | ⟨g_3, h⟩
  · obtain rfl := Option.some.inj h
    exact RunC.out [.n 1, .r [(2, .obj (oL true 46 5 cCached dCached ([] : List TCached))), (3, .obj (oL true 36 2 cEntry dEntry ([] : List TEntry)))], .n 2, .r [(4, .call (.p (.bool y_1)) []), (5, .dec true)], .n 2, .r [(0, .obj (oL true 46 5 cCached dCached ([] : List TCached))), (1, .obj (oL true 36 2 cEntry dEntry ([] : List TEntry)))]] (by kernel_rfl) (Obs.of (by kernel_rfl) (And.intro (le_nil 46 5 cCached dCached) (And.intro (le_nil 36 2 cEntry dEntry) (And.intro (cache_usable.spec e_2) (And.intro g_3 (And.intro (le_nil 46 5 cCached dCached) (le_nil 36 2 cEntry dEntry)))))))
  · obtain ⟨y_4, e_5, h⟩ := bind_or h
    obtain ⟨y_6, e_7, h⟩ := bind_or h
    exact RunC.go [.n 1, .r [(2, .obj (oL true 46 5 cCached dCached ([] : List TCached))), (3, .obj (oL true 36 2 cEntry dEntry ([] : List TEntry)))], .n 2, .r [(4, .call (.p (.bool y_1)) []), (5, .dec false)], .n 3, .r [(3, .call (.sref 0 46 5 (y_4).length) [(oL true 46 5 cCached dCached y_4)])], .n 1, .r [(1, .call (.agg ((cValue y_6).map .p)) [])], .n 5, .k [2, 4, 5, 13, 14, 15]] (by kernel_rfl) (Obs.of (by kernel_rfl) (And.intro (le_nil 46 5 cCached dCached) (And.intro (le_nil 36 2 cEntry dEntry) (And.intro (cache_usable.spec e_2) (And.intro (nt g_3) (And.intro (cache_Expire.spec e_5) (value_Clean.spec e_7))))))) (cache_Lookup.p1.run k _ _ _ _ _ _ r h)
theorem cache_Lookup.p3.mono   : ∀ (k k' : Nat) (rows2 : (List TEntry)) (day4 : Int) (i18 : Int) (c5b : TCache) (out13 : (List TCached)) (want14b : TValue) (r : ((List TCached) × (List TEntry) × Int)), k ≤ k' → cache_Lookup.p3 k rows2 day4 i18 c5b out13 want14b = some r → cache_Lookup.p3 k' rows2 day4 i18 c5b out13 want14b = some r := by
  intro k
  induction k with
  | zero => intro k' rows2 day4 i18 c5b out13 want14b r hk h; simp [cache_Lookup.p3] at h
  | succ k ih =>
    intro k' rows2 day4 i18 c5b out13 want14b r hk h
    obtain ⟨k', rfl⟩ : ∃ m, k' = m + 1 := ⟨k' - 1, by omega⟩
    replace hk := Nat.le_of_succ_le_succ hk
    rw [cache_Lookup.p3] at h ⊢
    rcases ite_or h with ⟨g_21, h⟩ | ⟨g_21, h⟩
    · refine itp g_21 ?_
      obtain ⟨g_22, h⟩ := ite_some h
      refine itp g_22 ?_
      obtain ⟨y_23, e_24, h⟩ := bind_or h
      refine bnd (value_Compare.mono _ _ _ _ _ hk e_24) ?_
      rcases ite_or h with ⟨g_25, h⟩ | ⟨g_25, h⟩
      · refine itp g_25 ?_
        exact ih _ _ _ _ _ _ _ r hk h
      · refine itn g_25 ?_
        obtain ⟨g_26, h⟩ := ite_some h
        refine itp g_26 ?_
        obtain ⟨g_27, h⟩ := ite_some h
        refine itp g_27 ?_
        obtain ⟨g_28, h⟩ := ite_some h
        refine itp g_28 ?_
        obtain ⟨y_29, e_30, h⟩ := bind_or h
        refine bnd (cache_Select.mono _ _ _ _ _ _ hk e_30) ?_
        obtain ⟨g_31, h⟩ := ite_some h
        refine itp g_31 ?_
        obtain ⟨y_32, e_33, h⟩ := bind_or h
        refine bnd (cache_copied.mono _ _ _ _ hk e_33) ?_
        exact h
    · refine itn g_21 ?_
      obtain ⟨g_34, h⟩ := ite_some h
      refine itp g_34 ?_
      obtain ⟨g_35, h⟩ := ite_some h
      refine itp g_35 ?_
      obtain ⟨g_36, h⟩ := ite_some h
      refine itp g_36 ?_
      obtain ⟨y_37, e_38, h⟩ := bind_or h
      refine bnd (cache_Select.mono _ _ _ _ _ _ hk e_38) ?_
      obtain ⟨g_39, h⟩ := ite_some h
      refine itp g_39 ?_
      obtain ⟨y_40, e_41, h⟩ := bind_or h
      refine bnd (cache_copied.mono _ _ _ _ hk e_41) ?_
      exact h
theorem cache_Lookup.p2.mono   : ∀ (k k' : Nat) (rows2 : (List TEntry)) (day4 : Int) (oldest16 : Int) (i17 : Int) (c5b : TCache) (out13 : (List TCached)) (want14b : TValue) (r : ((List TCached) × (List TEntry) × Int)), k ≤ k' → cache_Lookup.p2 k rows2 day4 oldest16 i17 c5b out13 want14b = some r → cache_Lookup.p2 k' rows2 day4 oldest16 i17 c5b out13 want14b = some r := by
  intro k
  induction k with
  | zero => intro k' rows2 day4 oldest16 i17 c5b out13 want14b r hk h; simp [cache_Lookup.p2] at h
  | succ k ih =>
    intro k' rows2 day4 oldest16 i17 c5b out13 want14b r hk h
    obtain ⟨k', rfl⟩ : ∃ m, k' = m + 1 := ⟨k' - 1, by omega⟩
    replace hk := Nat.le_of_succ_le_succ hk
    rw [cache_Lookup.p2] at h ⊢
    rcases ite_or h with ⟨g_14, h⟩ | ⟨g_14, h⟩
    · refine itp g_14 ?_
      obtain ⟨g_15, h⟩ := ite_some h
      refine itp g_15 ?_
      obtain ⟨g_16, h⟩ := ite_some h
      refine itp g_16 ?_
      rcases ite_or h with ⟨g_17, h⟩ | ⟨g_17, h⟩
      · refine itp g_17 ?_
        exact ih _ _ _ _ _ _ _ _ r hk h
      · refine itn g_17 ?_
        exact ih _ _ _ _ _ _ _ _ r hk h
    · refine itn g_14 ?_
      obtain ⟨g_18, h⟩ := ite_some h
      refine itp g_18 ?_
      obtain ⟨g_19, h⟩ := ite_some h
      refine itp g_19 ?_
      obtain ⟨g_20, h⟩ := ite_some h
      refine itp g_20 ?_
      exact cache_Lookup.p3.mono _ _ _ _ _ _ _ _ r hk h
theorem cache_Lookup.p1.mono   : ∀ (k k' : Nat) (rows2 : (List TEntry)) (day4 : Int) (i15 : Int) (c5b : TCache) (out13 : (List TCached)) (want14b : TValue) (r : ((List TCached) × (List TEntry) × Int)), k ≤ k' → cache_Lookup.p1 k rows2 day4 i15 c5b out13 want14b = some r → cache_Lookup.p1 k' rows2 day4 i15 c5b out13 want14b = some r := by
  intro k
  induction k with
  | zero => intro k' rows2 day4 i15 c5b out13 want14b r hk h; simp [cache_Lookup.p1] at h
  | succ k ih =>
    intro k' rows2 day4 i15 c5b out13 want14b r hk h
    obtain ⟨k', rfl⟩ : ∃ m, k' = m + 1 := ⟨k' - 1, by omega⟩
    replace hk := Nat.le_of_succ_le_succ hk
    rw [cache_Lookup.p1] at h ⊢
    rcases ite_or h with ⟨g_8, h⟩ | ⟨g_8, h⟩
    · refine itp g_8 ?_
      obtain ⟨g_9, h⟩ := ite_some h
      refine itp g_9 ?_
      rcases ite_or h with ⟨g_10, h⟩ | ⟨g_10, h⟩
      · refine itp g_10 ?_
        obtain ⟨y_11, e_12, h⟩ := bind_or h
        refine bnd (cache_copied.mono _ _ _ _ hk e_12) ?_
        exact h
      · refine itn g_10 ?_
        exact ih _ _ _ _ _ _ _ r hk h
    · refine itn g_8 ?_
      rcases ite_or h with ⟨g_13, h⟩ | ⟨g_13, h⟩
      · refine itp g_13 ?_
        exact cache_Lookup.p2.mono _ _ _ _ _ _ _ _ _ r hk h
      · refine itn g_13 ?_
        exact cache_Lookup.p3.mono _ _ _ _ _ _ _ _ r hk h
theorem cache_Lookup.mono   : ∀ (k k' : Nat) (c0 : TCache) (s1 : (List TCached)) (rows2 : (List TEntry)) (v3 : TValue) (day4 : Int) (r : ((List TCached) × (List TEntry) × Int)), k ≤ k' → cache_Lookup k c0 s1 rows2 v3 day4 = some r → cache_Lookup k' c0 s1 rows2 v3 day4 = some r := by
  intro k k' c0 s1 rows2 v3 day4 r hk h
  unfold cache_Lookup at h ⊢
  obtain ⟨y_1, e_2, h⟩ := bind_or h
  refine bnd (cache_usable.mono _ _ _ _ _ _ _ hk e_2) ?_
  rcases ite_or h with ⟨g_3, h⟩ | ⟨g_3, h⟩
  · refine itp g_3 ?_
    exact h
  · refine itn g_3 ?_
    obtain ⟨y_4, e_5, h⟩ := bind_or h
    refine bnd (cache_Expire.mono _ _ _ _ _ _ hk e_5) ?_
    obtain ⟨y_6, e_7, h⟩ := bind_or h
    refine bnd (value_Clean.mono _ _ _ _ hk e_7) ?_
    exact cache_Lookup.p1.mono _ _ _ _ _ _ _ _ r hk h
theorem cache_Lookup.spec {k : Nat} {c0 : TCache} {s1 : (List TCached)} {rows2 : (List TEntry)} {v3 : TValue} {day4 : Int} {r : ((List TCached) × (List TEntry) × Int)} (h : cache_Lookup k c0 s1 rows2 v3 day4 = some r) : Spec Try.prog 17 [.agg ((cCache c0).map .p), .p (eL 5 cCached dCached s1), .p (eL 2 cEntry dEntry rows2), .agg ((cValue v3).map .p), .p (.int .i64 day4)] (.tup [.sref 0 46 5 (r.1).length, .sref 1 36 2 (r.2.1).length, .p (.int .i64 r.2.2)]) [(oL true 46 5 cCached dCached (r.1)), (oL true 36 2 cEntry dEntry (r.2.1))] :=
  spec_of mix Try.func17 (body := bodyOf Try.f17) (by kernel_rfl) (by kernel_rfl) (cache_Lookup.run h)
end Go.Proofs.YtjhnpaenhdbhpabV
set_option linter.unusedVariables false
set_option linter.unusedSimpArgs false
set_option maxRecDepth 100000
namespace Go.Proofs.YtjhnpaenhdbhpabV
open Go Go.RowKit
noncomputable def erasureref01_Int  (k : Nat) (n0 : Int) : Option TValue := (erasureref01_Clean k (TValue.mk 1 n0 (⟨#[]⟩ : ByteArray))).bind fun y_1 => (some y_1)
noncomputable def erasureref01_Int.t : List Item := [.code (bodyOf Try.f18)]
noncomputable def erasureref01_Int.s (n0 : Int) : St := ⟨frOf Try.f18.ntmps 0 [(0, .p (.int .i64 n0))], []⟩
theorem erasureref01_Int.run   {k : Nat} {n0 : Int} {r : TValue} (h : erasureref01_Int k n0 = some r) : RunC Try.prog Try.f18 erasureref01_Int.t (erasureref01_Int.s n0) (.agg ((cValue r).map .p)) [] := by
  unfold erasureref01_Int at h
  obtain ⟨y_1, e_2, h⟩ := bind_or h
  obtain rfl := Option.some.inj h
  exact RunC.out [.n 3, .r [(2, .call (.agg ((cValue y_1).map .p)) [])]] (by kernel_rfl) (Obs.of (by kernel_rfl) (erasureref01_Clean.spec e_2))
theorem erasureref01_Int.mono   : ∀ (k k' : Nat) (n0 : Int) (r : TValue), k ≤ k' → erasureref01_Int k n0 = some r → erasureref01_Int k' n0 = some r := by
  intro k k' n0 r hk h
  unfold erasureref01_Int at h ⊢
  obtain ⟨y_1, e_2, h⟩ := bind_or h
  refine bnd (erasureref01_Clean.mono _ _ _ _ hk e_2) ?_
  exact h
theorem erasureref01_Int.spec {k : Nat} {n0 : Int} {r : TValue} (h : erasureref01_Int k n0 = some r) : Spec Try.prog 18 [.p (.int .i64 n0)] (.agg ((cValue r).map .p)) [] :=
  spec_of mix Try.func18 (body := bodyOf Try.f18) (by kernel_rfl) (by kernel_rfl) (erasureref01_Int.run h)
end Go.Proofs.YtjhnpaenhdbhpabV
set_option linter.unusedVariables false
set_option linter.unusedSimpArgs false
set_option maxRecDepth 100000
namespace Go.Proofs.YtjhnpaenhdbhpabV
open Go Go.RowKit
noncomputable def erasurelaw30_awake  (k : Nat)  : Option Bool := (erasureref01_Int k 7).bind fun y_1 => ((cache_Lookup k (TCache.mk (⟨#[]⟩ : ByteArray) (⟨#[]⟩ : ByteArray) 0 2) ([] : List TCached) ([(TEntry.mk ([y_1]) 3)]) y_1 5).bind fun y_3 => ((cache_Lookup k (TCache.mk (⟨#[]⟩ : ByteArray) (⟨#[]⟩ : ByteArray) 0 2) y_3.1 ([] : List TEntry) y_1 6).bind fun y_5 => ((cache_Lookup k (TCache.mk (⟨#[]⟩ : ByteArray) (⟨#[]⟩ : ByteArray) 0 2) y_5.1 ([] : List TEntry) y_1 7).bind fun y_7 => (if (y_3.2.2 == 0) = true then (if (y_5.2.2 == 0) = true then (if (y_7.2.2 == 0) = true then (if (((y_3.2.1).length : Int) == 1) = true then (if (((y_5.2.1).length : Int) == 1) = true then (some (((y_7.2.1).length : Int) == 0)) else (some false)) else (some false)) else (some false)) else (some false)) else (some false)))))
noncomputable def erasurelaw30_awake.t : List Item := [.code (bodyOf Try.f12)]
noncomputable def erasurelaw30_awake.s  : St := ⟨frOf Try.f12.ntmps 0 [], []⟩
theorem erasurelaw30_awake.run   {k : Nat}  {r : Bool} (h : erasurelaw30_awake k  = some r) : RunC Try.prog Try.f12 erasurelaw30_awake.t (erasurelaw30_awake.s ) (.p (.bool r)) [] := by
  unfold erasurelaw30_awake at h
  obtain ⟨y_1, e_2, h⟩ := bind_or h
  obtain ⟨y_3, e_4, h⟩ := bind_or h
  obtain ⟨y_5, e_6, h⟩ := bind_or h
  obtain ⟨y_7, e_8, h⟩ := bind_or h
  rcases ite_or h with ⟨g_9, h⟩ | ⟨g_9, h⟩
  · rcases ite_or h with ⟨g_10, h⟩ | ⟨g_10, h⟩
    · rcases ite_or h with ⟨g_11, h⟩ | ⟨g_11, h⟩
      · rcases ite_or h with ⟨g_12, h⟩ | ⟨g_12, h⟩
        · rcases ite_or h with ⟨g_13, h⟩ | ⟨g_13, h⟩
          · obtain rfl := Option.some.inj h
            exact RunC.out [.n 5, .r [(0, .call (.agg ((cValue y_1).map .p)) [])], .n 1, .r [(1, .obj (oL true 24 3 cValue dValue [y_1])), (3, .obj (oL true 36 2 cEntry dEntry [(TEntry.mk ([y_1]) 3)]))], .n 1, .r [(3, .callL [.agg ((cCache (TCache.mk (⟨#[]⟩ : ByteArray) (⟨#[]⟩ : ByteArray) 0 2)).map .p), .p (eL 5 cCached dCached ([] : List TCached)), .p (eL 2 cEntry dEntry ([(TEntry.mk ([y_1]) 3)])), .agg ((cValue y_1).map .p), .p (.int .i64 5)] (.tup [.sref 0 46 5 (y_3.1).length, .sref 1 36 2 (y_3.2.1).length, .p (.int .i64 y_3.2.2)]) [(oL true 46 5 cCached dCached y_3.1), (oL true 36 2 cEntry dEntry y_3.2.1)])], .n 1, .r [(3, .callL [.agg ((cCache (TCache.mk (⟨#[]⟩ : ByteArray) (⟨#[]⟩ : ByteArray) 0 2)).map .p), .p (eL 5 cCached dCached y_3.1), .p (eL 2 cEntry dEntry ([] : List TEntry)), .agg ((cValue y_1).map .p), .p (.int .i64 6)] (.tup [.sref 0 46 5 (y_5.1).length, .sref 1 36 2 (y_5.2.1).length, .p (.int .i64 y_5.2.2)]) [(oL true 46 5 cCached dCached y_5.1), (oL true 36 2 cEntry dEntry y_5.2.1)])], .n 1, .r [(3, .callL [.agg ((cCache (TCache.mk (⟨#[]⟩ : ByteArray) (⟨#[]⟩ : ByteArray) 0 2)).map .p), .p (eL 5 cCached dCached y_5.1), .p (eL 2 cEntry dEntry ([] : List TEntry)), .agg ((cValue y_1).map .p), .p (.int .i64 7)] (.tup [.sref 0 46 5 (y_7.1).length, .sref 1 36 2 (y_7.2.1).length, .p (.int .i64 y_7.2.2)]) [(oL true 46 5 cCached dCached y_7.1), (oL true 36 2 cEntry dEntry y_7.2.1)])], .n 1, .r [(2, .dec true), (6, .dec true), (10, .dec true), (15, .dec true), (20, .dec true)]] (by kernel_rfl) (Obs.of (by kernel_rfl) (And.intro (erasureref01_Int.spec e_2) (And.intro (le_one 24 3 cValue dValue y_1) (And.intro (le_one 36 2 cEntry dEntry (TEntry.mk ([y_1]) 3)) (And.intro (And.intro (fls_cons (fle_rfl (.agg ((cCache (TCache.mk (⟨#[]⟩ : ByteArray) (⟨#[]⟩ : ByteArray) 0 2)).map .p))) (fls_cons (fle_nil 5 cCached dCached) (fls_cons (fle_rfl (.p (eL 2 cEntry dEntry ([(TEntry.mk ([y_1]) 3)])))) (fls_cons (fle_rfl (.agg ((cValue y_1).map .p))) (fls_cons (fle_rfl (.p (.int .i64 5))) fls_nil))))) (cache_Lookup.spec e_4)) (And.intro (And.intro (fls_cons (fle_rfl (.agg ((cCache (TCache.mk (⟨#[]⟩ : ByteArray) (⟨#[]⟩ : ByteArray) 0 2)).map .p))) (fls_cons (fle_rfl (.p (eL 5 cCached dCached y_3.1))) (fls_cons (fle_nil 2 cEntry dEntry) (fls_cons (fle_rfl (.agg ((cValue y_1).map .p))) (fls_cons (fle_rfl (.p (.int .i64 6))) fls_nil))))) (cache_Lookup.spec e_6)) (And.intro (And.intro (fls_cons (fle_rfl (.agg ((cCache (TCache.mk (⟨#[]⟩ : ByteArray) (⟨#[]⟩ : ByteArray) 0 2)).map .p))) (fls_cons (fle_rfl (.p (eL 5 cCached dCached y_5.1))) (fls_cons (fle_nil 2 cEntry dEntry) (fls_cons (fle_rfl (.agg ((cValue y_1).map .p))) (fls_cons (fle_rfl (.p (.int .i64 7))) fls_nil))))) (cache_Lookup.spec e_8)) (And.intro g_9 (And.intro g_10 (And.intro g_11 (And.intro g_12 g_13)))))))))))
          · obtain rfl := Option.some.inj h
            exact RunC.out [.n 5, .r [(0, .call (.agg ((cValue y_1).map .p)) [])], .n 1, .r [(1, .obj (oL true 24 3 cValue dValue [y_1])), (3, .obj (oL true 36 2 cEntry dEntry [(TEntry.mk ([y_1]) 3)]))], .n 1, .r [(3, .callL [.agg ((cCache (TCache.mk (⟨#[]⟩ : ByteArray) (⟨#[]⟩ : ByteArray) 0 2)).map .p), .p (eL 5 cCached dCached ([] : List TCached)), .p (eL 2 cEntry dEntry ([(TEntry.mk ([y_1]) 3)])), .agg ((cValue y_1).map .p), .p (.int .i64 5)] (.tup [.sref 0 46 5 (y_3.1).length, .sref 1 36 2 (y_3.2.1).length, .p (.int .i64 y_3.2.2)]) [(oL true 46 5 cCached dCached y_3.1), (oL true 36 2 cEntry dEntry y_3.2.1)])], .n 1, .r [(3, .callL [.agg ((cCache (TCache.mk (⟨#[]⟩ : ByteArray) (⟨#[]⟩ : ByteArray) 0 2)).map .p), .p (eL 5 cCached dCached y_3.1), .p (eL 2 cEntry dEntry ([] : List TEntry)), .agg ((cValue y_1).map .p), .p (.int .i64 6)] (.tup [.sref 0 46 5 (y_5.1).length, .sref 1 36 2 (y_5.2.1).length, .p (.int .i64 y_5.2.2)]) [(oL true 46 5 cCached dCached y_5.1), (oL true 36 2 cEntry dEntry y_5.2.1)])], .n 1, .r [(3, .callL [.agg ((cCache (TCache.mk (⟨#[]⟩ : ByteArray) (⟨#[]⟩ : ByteArray) 0 2)).map .p), .p (eL 5 cCached dCached y_5.1), .p (eL 2 cEntry dEntry ([] : List TEntry)), .agg ((cValue y_1).map .p), .p (.int .i64 7)] (.tup [.sref 0 46 5 (y_7.1).length, .sref 1 36 2 (y_7.2.1).length, .p (.int .i64 y_7.2.2)]) [(oL true 46 5 cCached dCached y_7.1), (oL true 36 2 cEntry dEntry y_7.2.1)])], .n 1, .r [(2, .dec true), (6, .dec true), (10, .dec true), (15, .dec true), (20, .dec false)]] (by kernel_rfl) (Obs.of (by kernel_rfl) (And.intro (erasureref01_Int.spec e_2) (And.intro (le_one 24 3 cValue dValue y_1) (And.intro (le_one 36 2 cEntry dEntry (TEntry.mk ([y_1]) 3)) (And.intro (And.intro (fls_cons (fle_rfl (.agg ((cCache (TCache.mk (⟨#[]⟩ : ByteArray) (⟨#[]⟩ : ByteArray) 0 2)).map .p))) (fls_cons (fle_nil 5 cCached dCached) (fls_cons (fle_rfl (.p (eL 2 cEntry dEntry ([(TEntry.mk ([y_1]) 3)])))) (fls_cons (fle_rfl (.agg ((cValue y_1).map .p))) (fls_cons (fle_rfl (.p (.int .i64 5))) fls_nil))))) (cache_Lookup.spec e_4)) (And.intro (And.intro (fls_cons (fle_rfl (.agg ((cCache (TCache.mk (⟨#[]⟩ : ByteArray) (⟨#[]⟩ : ByteArray) 0 2)).map .p))) (fls_cons (fle_rfl (.p (eL 5 cCached dCached y_3.1))) (fls_cons (fle_nil 2 cEntry dEntry) (fls_cons (fle_rfl (.agg ((cValue y_1).map .p))) (fls_cons (fle_rfl (.p (.int .i64 6))) fls_nil))))) (cache_Lookup.spec e_6)) (And.intro (And.intro (fls_cons (fle_rfl (.agg ((cCache (TCache.mk (⟨#[]⟩ : ByteArray) (⟨#[]⟩ : ByteArray) 0 2)).map .p))) (fls_cons (fle_rfl (.p (eL 5 cCached dCached y_5.1))) (fls_cons (fle_nil 2 cEntry dEntry) (fls_cons (fle_rfl (.agg ((cValue y_1).map .p))) (fls_cons (fle_rfl (.p (.int .i64 7))) fls_nil))))) (cache_Lookup.spec e_8)) (And.intro g_9 (And.intro g_10 (And.intro g_11 (And.intro g_12 (nt g_13))))))))))))
        · obtain rfl := Option.some.inj h
          exact RunC.out [.n 5, .r [(0, .call (.agg ((cValue y_1).map .p)) [])], .n 1, .r [(1, .obj (oL true 24 3 cValue dValue [y_1])), (3, .obj (oL true 36 2 cEntry dEntry [(TEntry.mk ([y_1]) 3)]))], .n 1, .r [(3, .callL [.agg ((cCache (TCache.mk (⟨#[]⟩ : ByteArray) (⟨#[]⟩ : ByteArray) 0 2)).map .p), .p (eL 5 cCached dCached ([] : List TCached)), .p (eL 2 cEntry dEntry ([(TEntry.mk ([y_1]) 3)])), .agg ((cValue y_1).map .p), .p (.int .i64 5)] (.tup [.sref 0 46 5 (y_3.1).length, .sref 1 36 2 (y_3.2.1).length, .p (.int .i64 y_3.2.2)]) [(oL true 46 5 cCached dCached y_3.1), (oL true 36 2 cEntry dEntry y_3.2.1)])], .n 1, .r [(3, .callL [.agg ((cCache (TCache.mk (⟨#[]⟩ : ByteArray) (⟨#[]⟩ : ByteArray) 0 2)).map .p), .p (eL 5 cCached dCached y_3.1), .p (eL 2 cEntry dEntry ([] : List TEntry)), .agg ((cValue y_1).map .p), .p (.int .i64 6)] (.tup [.sref 0 46 5 (y_5.1).length, .sref 1 36 2 (y_5.2.1).length, .p (.int .i64 y_5.2.2)]) [(oL true 46 5 cCached dCached y_5.1), (oL true 36 2 cEntry dEntry y_5.2.1)])], .n 1, .r [(3, .callL [.agg ((cCache (TCache.mk (⟨#[]⟩ : ByteArray) (⟨#[]⟩ : ByteArray) 0 2)).map .p), .p (eL 5 cCached dCached y_5.1), .p (eL 2 cEntry dEntry ([] : List TEntry)), .agg ((cValue y_1).map .p), .p (.int .i64 7)] (.tup [.sref 0 46 5 (y_7.1).length, .sref 1 36 2 (y_7.2.1).length, .p (.int .i64 y_7.2.2)]) [(oL true 46 5 cCached dCached y_7.1), (oL true 36 2 cEntry dEntry y_7.2.1)])], .n 1, .r [(2, .dec true), (6, .dec true), (10, .dec true), (15, .dec false)]] (by kernel_rfl) (Obs.of (by kernel_rfl) (And.intro (erasureref01_Int.spec e_2) (And.intro (le_one 24 3 cValue dValue y_1) (And.intro (le_one 36 2 cEntry dEntry (TEntry.mk ([y_1]) 3)) (And.intro (And.intro (fls_cons (fle_rfl (.agg ((cCache (TCache.mk (⟨#[]⟩ : ByteArray) (⟨#[]⟩ : ByteArray) 0 2)).map .p))) (fls_cons (fle_nil 5 cCached dCached) (fls_cons (fle_rfl (.p (eL 2 cEntry dEntry ([(TEntry.mk ([y_1]) 3)])))) (fls_cons (fle_rfl (.agg ((cValue y_1).map .p))) (fls_cons (fle_rfl (.p (.int .i64 5))) fls_nil))))) (cache_Lookup.spec e_4)) (And.intro (And.intro (fls_cons (fle_rfl (.agg ((cCache (TCache.mk (⟨#[]⟩ : ByteArray) (⟨#[]⟩ : ByteArray) 0 2)).map .p))) (fls_cons (fle_rfl (.p (eL 5 cCached dCached y_3.1))) (fls_cons (fle_nil 2 cEntry dEntry) (fls_cons (fle_rfl (.agg ((cValue y_1).map .p))) (fls_cons (fle_rfl (.p (.int .i64 6))) fls_nil))))) (cache_Lookup.spec e_6)) (And.intro (And.intro (fls_cons (fle_rfl (.agg ((cCache (TCache.mk (⟨#[]⟩ : ByteArray) (⟨#[]⟩ : ByteArray) 0 2)).map .p))) (fls_cons (fle_rfl (.p (eL 5 cCached dCached y_5.1))) (fls_cons (fle_nil 2 cEntry dEntry) (fls_cons (fle_rfl (.agg ((cValue y_1).map .p))) (fls_cons (fle_rfl (.p (.int .i64 7))) fls_nil))))) (cache_Lookup.spec e_8)) (And.intro g_9 (And.intro g_10 (And.intro g_11 (nt g_12)))))))))))
      · obtain rfl := Option.some.inj h
        exact RunC.out [.n 5, .r [(0, .call (.agg ((cValue y_1).map .p)) [])], .n 1, .r [(1, .obj (oL true 24 3 cValue dValue [y_1])), (3, .obj (oL true 36 2 cEntry dEntry [(TEntry.mk ([y_1]) 3)]))], .n 1, .r [(3, .callL [.agg ((cCache (TCache.mk (⟨#[]⟩ : ByteArray) (⟨#[]⟩ : ByteArray) 0 2)).map .p), .p (eL 5 cCached dCached ([] : List TCached)), .p (eL 2 cEntry dEntry ([(TEntry.mk ([y_1]) 3)])), .agg ((cValue y_1).map .p), .p (.int .i64 5)] (.tup [.sref 0 46 5 (y_3.1).length, .sref 1 36 2 (y_3.2.1).length, .p (.int .i64 y_3.2.2)]) [(oL true 46 5 cCached dCached y_3.1), (oL true 36 2 cEntry dEntry y_3.2.1)])], .n 1, .r [(3, .callL [.agg ((cCache (TCache.mk (⟨#[]⟩ : ByteArray) (⟨#[]⟩ : ByteArray) 0 2)).map .p), .p (eL 5 cCached dCached y_3.1), .p (eL 2 cEntry dEntry ([] : List TEntry)), .agg ((cValue y_1).map .p), .p (.int .i64 6)] (.tup [.sref 0 46 5 (y_5.1).length, .sref 1 36 2 (y_5.2.1).length, .p (.int .i64 y_5.2.2)]) [(oL true 46 5 cCached dCached y_5.1), (oL true 36 2 cEntry dEntry y_5.2.1)])], .n 1, .r [(3, .callL [.agg ((cCache (TCache.mk (⟨#[]⟩ : ByteArray) (⟨#[]⟩ : ByteArray) 0 2)).map .p), .p (eL 5 cCached dCached y_5.1), .p (eL 2 cEntry dEntry ([] : List TEntry)), .agg ((cValue y_1).map .p), .p (.int .i64 7)] (.tup [.sref 0 46 5 (y_7.1).length, .sref 1 36 2 (y_7.2.1).length, .p (.int .i64 y_7.2.2)]) [(oL true 46 5 cCached dCached y_7.1), (oL true 36 2 cEntry dEntry y_7.2.1)])], .n 1, .r [(2, .dec true), (6, .dec true), (10, .dec false)]] (by kernel_rfl) (Obs.of (by kernel_rfl) (And.intro (erasureref01_Int.spec e_2) (And.intro (le_one 24 3 cValue dValue y_1) (And.intro (le_one 36 2 cEntry dEntry (TEntry.mk ([y_1]) 3)) (And.intro (And.intro (fls_cons (fle_rfl (.agg ((cCache (TCache.mk (⟨#[]⟩ : ByteArray) (⟨#[]⟩ : ByteArray) 0 2)).map .p))) (fls_cons (fle_nil 5 cCached dCached) (fls_cons (fle_rfl (.p (eL 2 cEntry dEntry ([(TEntry.mk ([y_1]) 3)])))) (fls_cons (fle_rfl (.agg ((cValue y_1).map .p))) (fls_cons (fle_rfl (.p (.int .i64 5))) fls_nil))))) (cache_Lookup.spec e_4)) (And.intro (And.intro (fls_cons (fle_rfl (.agg ((cCache (TCache.mk (⟨#[]⟩ : ByteArray) (⟨#[]⟩ : ByteArray) 0 2)).map .p))) (fls_cons (fle_rfl (.p (eL 5 cCached dCached y_3.1))) (fls_cons (fle_nil 2 cEntry dEntry) (fls_cons (fle_rfl (.agg ((cValue y_1).map .p))) (fls_cons (fle_rfl (.p (.int .i64 6))) fls_nil))))) (cache_Lookup.spec e_6)) (And.intro (And.intro (fls_cons (fle_rfl (.agg ((cCache (TCache.mk (⟨#[]⟩ : ByteArray) (⟨#[]⟩ : ByteArray) 0 2)).map .p))) (fls_cons (fle_rfl (.p (eL 5 cCached dCached y_5.1))) (fls_cons (fle_nil 2 cEntry dEntry) (fls_cons (fle_rfl (.agg ((cValue y_1).map .p))) (fls_cons (fle_rfl (.p (.int .i64 7))) fls_nil))))) (cache_Lookup.spec e_8)) (And.intro g_9 (And.intro g_10 (nt g_11))))))))))
    · obtain rfl := Option.some.inj h
      exact RunC.out [.n 5, .r [(0, .call (.agg ((cValue y_1).map .p)) [])], .n 1, .r [(1, .obj (oL true 24 3 cValue dValue [y_1])), (3, .obj (oL true 36 2 cEntry dEntry [(TEntry.mk ([y_1]) 3)]))], .n 1, .r [(3, .callL [.agg ((cCache (TCache.mk (⟨#[]⟩ : ByteArray) (⟨#[]⟩ : ByteArray) 0 2)).map .p), .p (eL 5 cCached dCached ([] : List TCached)), .p (eL 2 cEntry dEntry ([(TEntry.mk ([y_1]) 3)])), .agg ((cValue y_1).map .p), .p (.int .i64 5)] (.tup [.sref 0 46 5 (y_3.1).length, .sref 1 36 2 (y_3.2.1).length, .p (.int .i64 y_3.2.2)]) [(oL true 46 5 cCached dCached y_3.1), (oL true 36 2 cEntry dEntry y_3.2.1)])], .n 1, .r [(3, .callL [.agg ((cCache (TCache.mk (⟨#[]⟩ : ByteArray) (⟨#[]⟩ : ByteArray) 0 2)).map .p), .p (eL 5 cCached dCached y_3.1), .p (eL 2 cEntry dEntry ([] : List TEntry)), .agg ((cValue y_1).map .p), .p (.int .i64 6)] (.tup [.sref 0 46 5 (y_5.1).length, .sref 1 36 2 (y_5.2.1).length, .p (.int .i64 y_5.2.2)]) [(oL true 46 5 cCached dCached y_5.1), (oL true 36 2 cEntry dEntry y_5.2.1)])], .n 1, .r [(3, .callL [.agg ((cCache (TCache.mk (⟨#[]⟩ : ByteArray) (⟨#[]⟩ : ByteArray) 0 2)).map .p), .p (eL 5 cCached dCached y_5.1), .p (eL 2 cEntry dEntry ([] : List TEntry)), .agg ((cValue y_1).map .p), .p (.int .i64 7)] (.tup [.sref 0 46 5 (y_7.1).length, .sref 1 36 2 (y_7.2.1).length, .p (.int .i64 y_7.2.2)]) [(oL true 46 5 cCached dCached y_7.1), (oL true 36 2 cEntry dEntry y_7.2.1)])], .n 1, .r [(2, .dec true), (6, .dec false)]] (by kernel_rfl) (Obs.of (by kernel_rfl) (And.intro (erasureref01_Int.spec e_2) (And.intro (le_one 24 3 cValue dValue y_1) (And.intro (le_one 36 2 cEntry dEntry (TEntry.mk ([y_1]) 3)) (And.intro (And.intro (fls_cons (fle_rfl (.agg ((cCache (TCache.mk (⟨#[]⟩ : ByteArray) (⟨#[]⟩ : ByteArray) 0 2)).map .p))) (fls_cons (fle_nil 5 cCached dCached) (fls_cons (fle_rfl (.p (eL 2 cEntry dEntry ([(TEntry.mk ([y_1]) 3)])))) (fls_cons (fle_rfl (.agg ((cValue y_1).map .p))) (fls_cons (fle_rfl (.p (.int .i64 5))) fls_nil))))) (cache_Lookup.spec e_4)) (And.intro (And.intro (fls_cons (fle_rfl (.agg ((cCache (TCache.mk (⟨#[]⟩ : ByteArray) (⟨#[]⟩ : ByteArray) 0 2)).map .p))) (fls_cons (fle_rfl (.p (eL 5 cCached dCached y_3.1))) (fls_cons (fle_nil 2 cEntry dEntry) (fls_cons (fle_rfl (.agg ((cValue y_1).map .p))) (fls_cons (fle_rfl (.p (.int .i64 6))) fls_nil))))) (cache_Lookup.spec e_6)) (And.intro (And.intro (fls_cons (fle_rfl (.agg ((cCache (TCache.mk (⟨#[]⟩ : ByteArray) (⟨#[]⟩ : ByteArray) 0 2)).map .p))) (fls_cons (fle_rfl (.p (eL 5 cCached dCached y_5.1))) (fls_cons (fle_nil 2 cEntry dEntry) (fls_cons (fle_rfl (.agg ((cValue y_1).map .p))) (fls_cons (fle_rfl (.p (.int .i64 7))) fls_nil))))) (cache_Lookup.spec e_8)) (And.intro g_9 (nt g_10)))))))))
  · obtain rfl := Option.some.inj h
    exact RunC.out [.n 5, .r [(0, .call (.agg ((cValue y_1).map .p)) [])], .n 1, .r [(1, .obj (oL true 24 3 cValue dValue [y_1])), (3, .obj (oL true 36 2 cEntry dEntry [(TEntry.mk ([y_1]) 3)]))], .n 1, .r [(3, .callL [.agg ((cCache (TCache.mk (⟨#[]⟩ : ByteArray) (⟨#[]⟩ : ByteArray) 0 2)).map .p), .p (eL 5 cCached dCached ([] : List TCached)), .p (eL 2 cEntry dEntry ([(TEntry.mk ([y_1]) 3)])), .agg ((cValue y_1).map .p), .p (.int .i64 5)] (.tup [.sref 0 46 5 (y_3.1).length, .sref 1 36 2 (y_3.2.1).length, .p (.int .i64 y_3.2.2)]) [(oL true 46 5 cCached dCached y_3.1), (oL true 36 2 cEntry dEntry y_3.2.1)])], .n 1, .r [(3, .callL [.agg ((cCache (TCache.mk (⟨#[]⟩ : ByteArray) (⟨#[]⟩ : ByteArray) 0 2)).map .p), .p (eL 5 cCached dCached y_3.1), .p (eL 2 cEntry dEntry ([] : List TEntry)), .agg ((cValue y_1).map .p), .p (.int .i64 6)] (.tup [.sref 0 46 5 (y_5.1).length, .sref 1 36 2 (y_5.2.1).length, .p (.int .i64 y_5.2.2)]) [(oL true 46 5 cCached dCached y_5.1), (oL true 36 2 cEntry dEntry y_5.2.1)])], .n 1, .r [(3, .callL [.agg ((cCache (TCache.mk (⟨#[]⟩ : ByteArray) (⟨#[]⟩ : ByteArray) 0 2)).map .p), .p (eL 5 cCached dCached y_5.1), .p (eL 2 cEntry dEntry ([] : List TEntry)), .agg ((cValue y_1).map .p), .p (.int .i64 7)] (.tup [.sref 0 46 5 (y_7.1).length, .sref 1 36 2 (y_7.2.1).length, .p (.int .i64 y_7.2.2)]) [(oL true 46 5 cCached dCached y_7.1), (oL true 36 2 cEntry dEntry y_7.2.1)])], .n 1, .r [(2, .dec false)]] (by kernel_rfl) (Obs.of (by kernel_rfl) (And.intro (erasureref01_Int.spec e_2) (And.intro (le_one 24 3 cValue dValue y_1) (And.intro (le_one 36 2 cEntry dEntry (TEntry.mk ([y_1]) 3)) (And.intro (And.intro (fls_cons (fle_rfl (.agg ((cCache (TCache.mk (⟨#[]⟩ : ByteArray) (⟨#[]⟩ : ByteArray) 0 2)).map .p))) (fls_cons (fle_nil 5 cCached dCached) (fls_cons (fle_rfl (.p (eL 2 cEntry dEntry ([(TEntry.mk ([y_1]) 3)])))) (fls_cons (fle_rfl (.agg ((cValue y_1).map .p))) (fls_cons (fle_rfl (.p (.int .i64 5))) fls_nil))))) (cache_Lookup.spec e_4)) (And.intro (And.intro (fls_cons (fle_rfl (.agg ((cCache (TCache.mk (⟨#[]⟩ : ByteArray) (⟨#[]⟩ : ByteArray) 0 2)).map .p))) (fls_cons (fle_rfl (.p (eL 5 cCached dCached y_3.1))) (fls_cons (fle_nil 2 cEntry dEntry) (fls_cons (fle_rfl (.agg ((cValue y_1).map .p))) (fls_cons (fle_rfl (.p (.int .i64 6))) fls_nil))))) (cache_Lookup.spec e_6)) (And.intro (And.intro (fls_cons (fle_rfl (.agg ((cCache (TCache.mk (⟨#[]⟩ : ByteArray) (⟨#[]⟩ : ByteArray) 0 2)).map .p))) (fls_cons (fle_rfl (.p (eL 5 cCached dCached y_5.1))) (fls_cons (fle_nil 2 cEntry dEntry) (fls_cons (fle_rfl (.agg ((cValue y_1).map .p))) (fls_cons (fle_rfl (.p (.int .i64 7))) fls_nil))))) (cache_Lookup.spec e_8)) (nt g_9))))))))
theorem erasurelaw30_awake.mono   : ∀ (k k' : Nat)  (r : Bool), k ≤ k' → erasurelaw30_awake k  = some r → erasurelaw30_awake k'  = some r := by
  intro k k'  r hk h
  unfold erasurelaw30_awake at h ⊢
  obtain ⟨y_1, e_2, h⟩ := bind_or h
  refine bnd (erasureref01_Int.mono _ _ _ _ hk e_2) ?_
  obtain ⟨y_3, e_4, h⟩ := bind_or h
  refine bnd (cache_Lookup.mono _ _ _ _ _ _ _ _ hk e_4) ?_
  obtain ⟨y_5, e_6, h⟩ := bind_or h
  refine bnd (cache_Lookup.mono _ _ _ _ _ _ _ _ hk e_6) ?_
  obtain ⟨y_7, e_8, h⟩ := bind_or h
  refine bnd (cache_Lookup.mono _ _ _ _ _ _ _ _ hk e_8) ?_
  rcases ite_or h with ⟨g_9, h⟩ | ⟨g_9, h⟩
  · refine itp g_9 ?_
    rcases ite_or h with ⟨g_10, h⟩ | ⟨g_10, h⟩
    · refine itp g_10 ?_
      rcases ite_or h with ⟨g_11, h⟩ | ⟨g_11, h⟩
      · refine itp g_11 ?_
        rcases ite_or h with ⟨g_12, h⟩ | ⟨g_12, h⟩
        · refine itp g_12 ?_
          rcases ite_or h with ⟨g_13, h⟩ | ⟨g_13, h⟩
          · refine itp g_13 ?_
            exact h
          · refine itn g_13 ?_
            exact h
        · refine itn g_12 ?_
          exact h
      · refine itn g_11 ?_
        exact h
    · refine itn g_10 ?_
      exact h
  · refine itn g_9 ?_
    exact h
theorem erasurelaw30_awake.spec {k : Nat}  {r : Bool} (h : erasurelaw30_awake k  = some r) : Spec Try.prog 12 [] (.p (.bool r)) [] :=
  spec_of mix Try.func12 (body := bodyOf Try.f12) (by kernel_rfl) (by kernel_rfl) (erasurelaw30_awake.run h)
end Go.Proofs.YtjhnpaenhdbhpabV
set_option linter.unusedVariables false
set_option linter.unusedSimpArgs false
set_option maxRecDepth 100000
namespace Go.Proofs.YtjhnpaenhdbhpabV
open Go Go.RowKit
noncomputable def erasurelaw30_CacheServes.p1  : Nat → Int → TCache → TValue → T32 → (List TValue) → Option Bool
  | 0, _, _, _, _, _ => none
  | k + 1, i8, c3b, v4b, d5b, row7 => if (decide (i8 ≤ c3b.f2)) = true then (if (decide (i8 < 16)) = true then ((erasureref01_Clean k v4b).bind fun y_21 => (if (row7).length + ([y_21]).length ≤ maxLen ∧ ((row7).length + ([y_21]).length) * 32 ≤ 140737488355328 then (erasurelaw30_CacheServes.p1 k (IntKind.i64.wrap (i8 + 1)) c3b v4b d5b (row7 ++ ([y_21]))) else none)) else (if (decide (c3b.f2 < 0)) = true then ((erasurelaw30_awake k ).bind fun y_25 => (some y_25)) else (if (decide (c3b.f2 > 15)) = true then ((erasurelaw30_awake k ).bind fun y_28 => (some y_28)) else ((cache_Lookup k c3b ([] : List TCached) ([(TEntry.mk row7 1)]) v4b d5b.f0).bind fun y_30 => ((cache_Lookup k c3b y_30.1 ([] : List TEntry) v4b (IntKind.i64.wrap (d5b.f0 + d5b.f1))).bind fun y_32 => (if (decide (d5b.f1 < c3b.f3)) = true then (if (y_30.2.2 == 0) = true then (if (y_32.2.2 == 0) = true then (if (((y_30.2.1).length : Int) == 1) = true then (if (((y_32.2.1).length : Int) == 1) = true then ((erasurelaw30_awake k ).bind fun y_39 => (some y_39)) else (some false)) else (some false)) else (some false)) else (some false)) else (if (y_30.2.2 == 0) = true then (if (y_32.2.2 == 0) = true then (if (((y_30.2.1).length : Int) == 1) = true then (if (((y_32.2.1).length : Int) == 0) = true then ((erasurelaw30_awake k ).bind fun y_45 => (some y_45)) else (some false)) else (some false)) else (some false)) else (some false)))))))) else (if (decide (c3b.f2 < 0)) = true then ((erasurelaw30_awake k ).bind fun y_48 => (some y_48)) else (if (decide (c3b.f2 > 15)) = true then ((erasurelaw30_awake k ).bind fun y_51 => (some y_51)) else ((cache_Lookup k c3b ([] : List TCached) ([(TEntry.mk row7 1)]) v4b d5b.f0).bind fun y_53 => ((cache_Lookup k c3b y_53.1 ([] : List TEntry) v4b (IntKind.i64.wrap (d5b.f0 + d5b.f1))).bind fun y_55 => (if (decide (d5b.f1 < c3b.f3)) = true then (if (y_53.2.2 == 0) = true then (if (y_55.2.2 == 0) = true then (if (((y_53.2.1).length : Int) == 1) = true then (if (((y_55.2.1).length : Int) == 1) = true then ((erasurelaw30_awake k ).bind fun y_62 => (some y_62)) else (some false)) else (some false)) else (some false)) else (some false)) else (if (y_53.2.2 == 0) = true then (if (y_55.2.2 == 0) = true then (if (((y_53.2.1).length : Int) == 1) = true then (if (((y_55.2.1).length : Int) == 0) = true then ((erasurelaw30_awake k ).bind fun y_68 => (some y_68)) else (some false)) else (some false)) else (some false)) else (some false)))))))
noncomputable def erasurelaw30_CacheServes  (k : Nat) (c0 : TCache) (v1 : TValue) (d2 : T32) : Option Bool := if (decide (c0.f3 < 0)) = true then ((erasurelaw30_awake k ).bind fun y_2 => (some y_2)) else (if (decide (c0.f3 > 1000)) = true then ((erasurelaw30_awake k ).bind fun y_5 => (some y_5)) else (if (decide (d2.f0 < 0)) = true then ((erasurelaw30_awake k ).bind fun y_8 => (some y_8)) else (if (decide (d2.f0 > 1000)) = true then ((erasurelaw30_awake k ).bind fun y_11 => (some y_11)) else (if (decide (d2.f1 < 0)) = true then ((erasurelaw30_awake k ).bind fun y_14 => (some y_14)) else (if (decide (d2.f1 > 3000)) = true then ((erasurelaw30_awake k ).bind fun y_17 => (some y_17)) else (erasurelaw30_CacheServes.p1 k 0 c0 v1 d2 ([] : List TValue)))))))
noncomputable def erasurelaw30_CacheServes.t : List Item := [.code (bodyOf Try.f4)]
noncomputable def erasurelaw30_CacheServes.s (c0 : TCache) (v1 : TValue) (d2 : T32) : St := ⟨frOf Try.f4.ntmps 0 [(0, .agg ((cCache c0).map .p)), (1, .agg ((cValue v1).map .p)), (2, .agg ((c32 d2).map .p))], []⟩
noncomputable def erasurelaw30_CacheServes.p1.t : List Item := nav 14 [false] erasurelaw30_CacheServes.t
noncomputable def erasurelaw30_CacheServes.p1.s (i8 : Int) (c3b : TCache) (v4b : TValue) (d5b : T32) (row7 : (List TValue)) : St := ⟨frOf Try.f4.ntmps 0 [(3, .ptr 0 0 0), (4, .ptr 1 0 0), (5, .ptr 2 0 0), (7, .sref 3 24 3 (row7).length), (8, .p (.int .i64 i8))], [.box ((cCache c3b).map .p), .box ((cValue v4b).map .p), .box ((c32 d5b).map .p), (oL true 24 3 cValue dValue row7)]⟩
theorem erasurelaw30_CacheServes.p1.run   : ∀ (k : Nat) (i8 : Int) (c3b : TCache) (v4b : TValue) (d5b : T32) (row7 : (List TValue)) (r : Bool), erasurelaw30_CacheServes.p1 k i8 c3b v4b d5b row7 = some r → RunC Try.prog Try.f4 erasurelaw30_CacheServes.p1.t (erasurelaw30_CacheServes.p1.s i8 c3b v4b d5b row7) (.p (.bool r)) [] := by
  intro k
  induction k with
  | zero => intro i8 c3b v4b d5b row7 r h; simp [erasurelaw30_CacheServes.p1] at h
  | succ k ih =>
    intro i8 c3b v4b d5b row7 r h
    rw [erasurelaw30_CacheServes.p1] at h
    rcases ite_or h with ⟨g_19, h⟩ | ⟨g_19, h⟩
    · rcases ite_or h with ⟨g_20, h⟩ | ⟨g_20, h⟩
      · obtain ⟨y_21, e_22, h⟩ := bind_or h
        obtain ⟨g_23, h⟩ := ite_some h
        exact RunC.go [.n 2, .r [(4, .dec true), (7, .dec true)], .n 4, .r [(2, .call (.agg ((cValue y_21).map .p)) []), (3, .obj (oL true 24 3 cValue dValue [y_21])), (4, .obj (oL true 24 3 cValue dValue (row7 ++ ([y_21]))))], .n 3, .k [3, 4, 5, 7, 8]] (by kernel_rfl) (Obs.of (by kernel_rfl) (And.intro g_19 (And.intro g_20 (And.intro (erasureref01_Clean.spec e_22) (And.intro (le_one 24 3 cValue dValue y_21) (And.intro g_23 (le_app 24 3 cValue dValue row7 ([y_21])))))))) (ih _ _ _ _ _ r h)
      · rcases ite_or h with ⟨g_24, h⟩ | ⟨g_24, h⟩
        · obtain ⟨y_25, e_26, h⟩ := bind_or h
          obtain rfl := Option.some.inj h
          exact RunC.out [.n 2, .r [(4, .dec true), (7, .dec false)], .n 4, .r [(3, .dec true)], .n 2, .r [(0, .call (.p (.bool y_25)) [])]] (by kernel_rfl) (Obs.of (by kernel_rfl) (And.intro g_19 (And.intro (nt g_20) (And.intro g_24 (erasurelaw30_awake.spec e_26)))))
        · rcases ite_or h with ⟨g_27, h⟩ | ⟨g_27, h⟩
          · obtain ⟨y_28, e_29, h⟩ := bind_or h
            obtain rfl := Option.some.inj h
            exact RunC.out [.n 2, .r [(4, .dec true), (7, .dec false)], .n 4, .r [(3, .dec false), (7, .dec true)], .n 2, .r [(0, .call (.p (.bool y_28)) [])]] (by kernel_rfl) (Obs.of (by kernel_rfl) (And.intro g_19 (And.intro (nt g_20) (And.intro (nt g_24) (And.intro g_27 (erasurelaw30_awake.spec e_29))))))
          · obtain ⟨y_30, e_31, h⟩ := bind_or h
            obtain ⟨y_32, e_33, h⟩ := bind_or h
            rcases ite_or h with ⟨g_34, h⟩ | ⟨g_34, h⟩
            · rcases ite_or h with ⟨g_35, h⟩ | ⟨g_35, h⟩
              · rcases ite_or h with ⟨g_36, h⟩ | ⟨g_36, h⟩
                · rcases ite_or h with ⟨g_37, h⟩ | ⟨g_37, h⟩
                  · rcases ite_or h with ⟨g_38, h⟩ | ⟨g_38, h⟩
                    · obtain ⟨y_39, e_40, h⟩ := bind_or h
                      obtain rfl := Option.some.inj h
                      exact RunC.out [.n 2, .r [(4, .dec true), (7, .dec false)], .n 4, .r [(3, .dec false), (7, .dec false)], .n 3, .r [(2, .obj (oL true 36 2 cEntry dEntry [(TEntry.mk row7 1)]))], .n 1, .r [(5, .callL [.agg ((cCache c3b).map .p), .p (eL 5 cCached dCached ([] : List TCached)), .p (eL 2 cEntry dEntry ([(TEntry.mk row7 1)])), .agg ((cValue v4b).map .p), .p (.int .i64 d5b.f0)] (.tup [.sref 0 46 5 (y_30.1).length, .sref 1 36 2 (y_30.2.1).length, .p (.int .i64 y_30.2.2)]) [(oL true 46 5 cCached dCached y_30.1), (oL true 36 2 cEntry dEntry y_30.2.1)])], .n 1, .r [(8, .callL [.agg ((cCache c3b).map .p), .p (eL 5 cCached dCached y_30.1), .p (eL 2 cEntry dEntry ([] : List TEntry)), .agg ((cValue v4b).map .p), .p (.int .i64 (IntKind.i64.wrap (d5b.f0 + d5b.f1)))] (.tup [.sref 0 46 5 (y_32.1).length, .sref 1 36 2 (y_32.2.1).length, .p (.int .i64 y_32.2.2)]) [(oL true 46 5 cCached dCached y_32.1), (oL true 36 2 cEntry dEntry y_32.2.1)])], .n 4, .r [(4, .dec true)], .n 3, .r [(2, .dec true), (6, .dec true), (11, .dec true), (17, .dec true), (18, .call (.p (.bool y_39)) [])]] (by kernel_rfl) (Obs.of (by kernel_rfl) (And.intro g_19 (And.intro (nt g_20) (And.intro (nt g_24) (And.intro (nt g_27) (And.intro (le_one 36 2 cEntry dEntry (TEntry.mk row7 1)) (And.intro (show 0 ≤ (0 : Int) ∧ (0 : Int) < ((2 : Nat) : Int) from by decide) (And.intro (And.intro (fls_cons (fle_rfl (.agg ((cCache c3b).map .p))) (fls_cons (fle_nil 5 cCached dCached) (fls_cons (fle_rfl (.p (eL 2 cEntry dEntry ([(TEntry.mk row7 1)])))) (fls_cons (fle_rfl (.agg ((cValue v4b).map .p))) (fls_cons (fle_rfl (.p (.int .i64 d5b.f0))) fls_nil))))) (cache_Lookup.spec e_31)) (And.intro (show 0 ≤ (0 : Int) ∧ (0 : Int) < ((2 : Nat) : Int) from by decide) (And.intro (show 0 ≤ (1 : Int) ∧ (1 : Int) < ((2 : Nat) : Int) from by decide) (And.intro (And.intro (fls_cons (fle_rfl (.agg ((cCache c3b).map .p))) (fls_cons (fle_rfl (.p (eL 5 cCached dCached y_30.1))) (fls_cons (fle_nil 2 cEntry dEntry) (fls_cons (fle_rfl (.agg ((cValue v4b).map .p))) (fls_cons (fle_rfl (.p (.int .i64 (IntKind.i64.wrap (d5b.f0 + d5b.f1))))) fls_nil))))) (cache_Lookup.spec e_33)) (And.intro (show 0 ≤ (1 : Int) ∧ (1 : Int) < ((2 : Nat) : Int) from by decide) (And.intro g_34 (And.intro g_35 (And.intro g_36 (And.intro g_37 (And.intro g_38 (erasurelaw30_awake.spec e_40))))))))))))))))))
                    · obtain rfl := Option.some.inj h
                      exact RunC.out [.n 2, .r [(4, .dec true), (7, .dec false)], .n 4, .r [(3, .dec false), (7, .dec false)], .n 3, .r [(2, .obj (oL true 36 2 cEntry dEntry [(TEntry.mk row7 1)]))], .n 1, .r [(5, .callL [.agg ((cCache c3b).map .p), .p (eL 5 cCached dCached ([] : List TCached)), .p (eL 2 cEntry dEntry ([(TEntry.mk row7 1)])), .agg ((cValue v4b).map .p), .p (.int .i64 d5b.f0)] (.tup [.sref 0 46 5 (y_30.1).length, .sref 1 36 2 (y_30.2.1).length, .p (.int .i64 y_30.2.2)]) [(oL true 46 5 cCached dCached y_30.1), (oL true 36 2 cEntry dEntry y_30.2.1)])], .n 1, .r [(8, .callL [.agg ((cCache c3b).map .p), .p (eL 5 cCached dCached y_30.1), .p (eL 2 cEntry dEntry ([] : List TEntry)), .agg ((cValue v4b).map .p), .p (.int .i64 (IntKind.i64.wrap (d5b.f0 + d5b.f1)))] (.tup [.sref 0 46 5 (y_32.1).length, .sref 1 36 2 (y_32.2.1).length, .p (.int .i64 y_32.2.2)]) [(oL true 46 5 cCached dCached y_32.1), (oL true 36 2 cEntry dEntry y_32.2.1)])], .n 4, .r [(4, .dec true)], .n 3, .r [(2, .dec true), (6, .dec true), (11, .dec true), (17, .dec false)]] (by kernel_rfl) (Obs.of (by kernel_rfl) (And.intro g_19 (And.intro (nt g_20) (And.intro (nt g_24) (And.intro (nt g_27) (And.intro (le_one 36 2 cEntry dEntry (TEntry.mk row7 1)) (And.intro (show 0 ≤ (0 : Int) ∧ (0 : Int) < ((2 : Nat) : Int) from by decide) (And.intro (And.intro (fls_cons (fle_rfl (.agg ((cCache c3b).map .p))) (fls_cons (fle_nil 5 cCached dCached) (fls_cons (fle_rfl (.p (eL 2 cEntry dEntry ([(TEntry.mk row7 1)])))) (fls_cons (fle_rfl (.agg ((cValue v4b).map .p))) (fls_cons (fle_rfl (.p (.int .i64 d5b.f0))) fls_nil))))) (cache_Lookup.spec e_31)) (And.intro (show 0 ≤ (0 : Int) ∧ (0 : Int) < ((2 : Nat) : Int) from by decide) (And.intro (show 0 ≤ (1 : Int) ∧ (1 : Int) < ((2 : Nat) : Int) from by decide) (And.intro (And.intro (fls_cons (fle_rfl (.agg ((cCache c3b).map .p))) (fls_cons (fle_rfl (.p (eL 5 cCached dCached y_30.1))) (fls_cons (fle_nil 2 cEntry dEntry) (fls_cons (fle_rfl (.agg ((cValue v4b).map .p))) (fls_cons (fle_rfl (.p (.int .i64 (IntKind.i64.wrap (d5b.f0 + d5b.f1))))) fls_nil))))) (cache_Lookup.spec e_33)) (And.intro (show 0 ≤ (1 : Int) ∧ (1 : Int) < ((2 : Nat) : Int) from by decide) (And.intro g_34 (And.intro g_35 (And.intro g_36 (And.intro g_37 (nt g_38)))))))))))))))))
                  · obtain rfl := Option.some.inj h
                    exact RunC.out [.n 2, .r [(4, .dec true), (7, .dec false)], .n 4, .r [(3, .dec false), (7, .dec false)], .n 3, .r [(2, .obj (oL true 36 2 cEntry dEntry [(TEntry.mk row7 1)]))], .n 1, .r [(5, .callL [.agg ((cCache c3b).map .p), .p (eL 5 cCached dCached ([] : List TCached)), .p (eL 2 cEntry dEntry ([(TEntry.mk row7 1)])), .agg ((cValue v4b).map .p), .p (.int .i64 d5b.f0)] (.tup [.sref 0 46 5 (y_30.1).length, .sref 1 36 2 (y_30.2.1).length, .p (.int .i64 y_30.2.2)]) [(oL true 46 5 cCached dCached y_30.1), (oL true 36 2 cEntry dEntry y_30.2.1)])], .n 1, .r [(8, .callL [.agg ((cCache c3b).map .p), .p (eL 5 cCached dCached y_30.1), .p (eL 2 cEntry dEntry ([] : List TEntry)), .agg ((cValue v4b).map .p), .p (.int .i64 (IntKind.i64.wrap (d5b.f0 + d5b.f1)))] (.tup [.sref 0 46 5 (y_32.1).length, .sref 1 36 2 (y_32.2.1).length, .p (.int .i64 y_32.2.2)]) [(oL true 46 5 cCached dCached y_32.1), (oL true 36 2 cEntry dEntry y_32.2.1)])], .n 4, .r [(4, .dec true)], .n 3, .r [(2, .dec true), (6, .dec true), (11, .dec false)]] (by kernel_rfl) (Obs.of (by kernel_rfl) (And.intro g_19 (And.intro (nt g_20) (And.intro (nt g_24) (And.intro (nt g_27) (And.intro (le_one 36 2 cEntry dEntry (TEntry.mk row7 1)) (And.intro (show 0 ≤ (0 : Int) ∧ (0 : Int) < ((2 : Nat) : Int) from by decide) (And.intro (And.intro (fls_cons (fle_rfl (.agg ((cCache c3b).map .p))) (fls_cons (fle_nil 5 cCached dCached) (fls_cons (fle_rfl (.p (eL 2 cEntry dEntry ([(TEntry.mk row7 1)])))) (fls_cons (fle_rfl (.agg ((cValue v4b).map .p))) (fls_cons (fle_rfl (.p (.int .i64 d5b.f0))) fls_nil))))) (cache_Lookup.spec e_31)) (And.intro (show 0 ≤ (0 : Int) ∧ (0 : Int) < ((2 : Nat) : Int) from by decide) (And.intro (show 0 ≤ (1 : Int) ∧ (1 : Int) < ((2 : Nat) : Int) from by decide) (And.intro (And.intro (fls_cons (fle_rfl (.agg ((cCache c3b).map .p))) (fls_cons (fle_rfl (.p (eL 5 cCached dCached y_30.1))) (fls_cons (fle_nil 2 cEntry dEntry) (fls_cons (fle_rfl (.agg ((cValue v4b).map .p))) (fls_cons (fle_rfl (.p (.int .i64 (IntKind.i64.wrap (d5b.f0 + d5b.f1))))) fls_nil))))) (cache_Lookup.spec e_33)) (And.intro (show 0 ≤ (1 : Int) ∧ (1 : Int) < ((2 : Nat) : Int) from by decide) (And.intro g_34 (And.intro g_35 (And.intro g_36 (nt g_37))))))))))))))))
                · obtain rfl := Option.some.inj h
                  exact RunC.out [.n 2, .r [(4, .dec true), (7, .dec false)], .n 4, .r [(3, .dec false), (7, .dec false)], .n 3, .r [(2, .obj (oL true 36 2 cEntry dEntry [(TEntry.mk row7 1)]))], .n 1, .r [(5, .callL [.agg ((cCache c3b).map .p), .p (eL 5 cCached dCached ([] : List TCached)), .p (eL 2 cEntry dEntry ([(TEntry.mk row7 1)])), .agg ((cValue v4b).map .p), .p (.int .i64 d5b.f0)] (.tup [.sref 0 46 5 (y_30.1).length, .sref 1 36 2 (y_30.2.1).length, .p (.int .i64 y_30.2.2)]) [(oL true 46 5 cCached dCached y_30.1), (oL true 36 2 cEntry dEntry y_30.2.1)])], .n 1, .r [(8, .callL [.agg ((cCache c3b).map .p), .p (eL 5 cCached dCached y_30.1), .p (eL 2 cEntry dEntry ([] : List TEntry)), .agg ((cValue v4b).map .p), .p (.int .i64 (IntKind.i64.wrap (d5b.f0 + d5b.f1)))] (.tup [.sref 0 46 5 (y_32.1).length, .sref 1 36 2 (y_32.2.1).length, .p (.int .i64 y_32.2.2)]) [(oL true 46 5 cCached dCached y_32.1), (oL true 36 2 cEntry dEntry y_32.2.1)])], .n 4, .r [(4, .dec true)], .n 3, .r [(2, .dec true), (6, .dec false)]] (by kernel_rfl) (Obs.of (by kernel_rfl) (And.intro g_19 (And.intro (nt g_20) (And.intro (nt g_24) (And.intro (nt g_27) (And.intro (le_one 36 2 cEntry dEntry (TEntry.mk row7 1)) (And.intro (show 0 ≤ (0 : Int) ∧ (0 : Int) < ((2 : Nat) : Int) from by decide) (And.intro (And.intro (fls_cons (fle_rfl (.agg ((cCache c3b).map .p))) (fls_cons (fle_nil 5 cCached dCached) (fls_cons (fle_rfl (.p (eL 2 cEntry dEntry ([(TEntry.mk row7 1)])))) (fls_cons (fle_rfl (.agg ((cValue v4b).map .p))) (fls_cons (fle_rfl (.p (.int .i64 d5b.f0))) fls_nil))))) (cache_Lookup.spec e_31)) (And.intro (show 0 ≤ (0 : Int) ∧ (0 : Int) < ((2 : Nat) : Int) from by decide) (And.intro (show 0 ≤ (1 : Int) ∧ (1 : Int) < ((2 : Nat) : Int) from by decide) (And.intro (And.intro (fls_cons (fle_rfl (.agg ((cCache c3b).map .p))) (fls_cons (fle_rfl (.p (eL 5 cCached dCached y_30.1))) (fls_cons (fle_nil 2 cEntry dEntry) (fls_cons (fle_rfl (.agg ((cValue v4b).map .p))) (fls_cons (fle_rfl (.p (.int .i64 (IntKind.i64.wrap (d5b.f0 + d5b.f1))))) fls_nil))))) (cache_Lookup.spec e_33)) (And.intro (show 0 ≤ (1 : Int) ∧ (1 : Int) < ((2 : Nat) : Int) from by decide) (And.intro g_34 (And.intro g_35 (nt g_36)))))))))))))))
              · obtain rfl := Option.some.inj h
                exact RunC.out [.n 2, .r [(4, .dec true), (7, .dec false)], .n 4, .r [(3, .dec false), (7, .dec false)], .n 3, .r [(2, .obj (oL true 36 2 cEntry dEntry [(TEntry.mk row7 1)]))], .n 1, .r [(5, .callL [.agg ((cCache c3b).map .p), .p (eL 5 cCached dCached ([] : List TCached)), .p (eL 2 cEntry dEntry ([(TEntry.mk row7 1)])), .agg ((cValue v4b).map .p), .p (.int .i64 d5b.f0)] (.tup [.sref 0 46 5 (y_30.1).length, .sref 1 36 2 (y_30.2.1).length, .p (.int .i64 y_30.2.2)]) [(oL true 46 5 cCached dCached y_30.1), (oL true 36 2 cEntry dEntry y_30.2.1)])], .n 1, .r [(8, .callL [.agg ((cCache c3b).map .p), .p (eL 5 cCached dCached y_30.1), .p (eL 2 cEntry dEntry ([] : List TEntry)), .agg ((cValue v4b).map .p), .p (.int .i64 (IntKind.i64.wrap (d5b.f0 + d5b.f1)))] (.tup [.sref 0 46 5 (y_32.1).length, .sref 1 36 2 (y_32.2.1).length, .p (.int .i64 y_32.2.2)]) [(oL true 46 5 cCached dCached y_32.1), (oL true 36 2 cEntry dEntry y_32.2.1)])], .n 4, .r [(4, .dec true)], .n 3, .r [(2, .dec false)]] (by kernel_rfl) (Obs.of (by kernel_rfl) (And.intro g_19 (And.intro (nt g_20) (And.intro (nt g_24) (And.intro (nt g_27) (And.intro (le_one 36 2 cEntry dEntry (TEntry.mk row7 1)) (And.intro (show 0 ≤ (0 : Int) ∧ (0 : Int) < ((2 : Nat) : Int) from by decide) (And.intro (And.intro (fls_cons (fle_rfl (.agg ((cCache c3b).map .p))) (fls_cons (fle_nil 5 cCached dCached) (fls_cons (fle_rfl (.p (eL 2 cEntry dEntry ([(TEntry.mk row7 1)])))) (fls_cons (fle_rfl (.agg ((cValue v4b).map .p))) (fls_cons (fle_rfl (.p (.int .i64 d5b.f0))) fls_nil))))) (cache_Lookup.spec e_31)) (And.intro (show 0 ≤ (0 : Int) ∧ (0 : Int) < ((2 : Nat) : Int) from by decide) (And.intro (show 0 ≤ (1 : Int) ∧ (1 : Int) < ((2 : Nat) : Int) from by decide) (And.intro (And.intro (fls_cons (fle_rfl (.agg ((cCache c3b).map .p))) (fls_cons (fle_rfl (.p (eL 5 cCached dCached y_30.1))) (fls_cons (fle_nil 2 cEntry dEntry) (fls_cons (fle_rfl (.agg ((cValue v4b).map .p))) (fls_cons (fle_rfl (.p (.int .i64 (IntKind.i64.wrap (d5b.f0 + d5b.f1))))) fls_nil))))) (cache_Lookup.spec e_33)) (And.intro (show 0 ≤ (1 : Int) ∧ (1 : Int) < ((2 : Nat) : Int) from by decide) (And.intro g_34 (nt g_35))))))))))))))
            · rcases ite_or h with ⟨g_41, h⟩ | ⟨g_41, h⟩
              · rcases ite_or h with ⟨g_42, h⟩ | ⟨g_42, h⟩
                · rcases ite_or h with ⟨g_43, h⟩ | ⟨g_43, h⟩
                  · rcases ite_or h with ⟨g_44, h⟩ | ⟨g_44, h⟩
                    · obtain ⟨y_45, e_46, h⟩ := bind_or h
                      obtain rfl := Option.some.inj h
                      exact RunC.out [.n 2, .r [(4, .dec true), (7, .dec false)], .n 4, .r [(3, .dec false), (7, .dec false)], .n 3, .r [(2, .obj (oL true 36 2 cEntry dEntry [(TEntry.mk row7 1)]))], .n 1, .r [(5, .callL [.agg ((cCache c3b).map .p), .p (eL 5 cCached dCached ([] : List TCached)), .p (eL 2 cEntry dEntry ([(TEntry.mk row7 1)])), .agg ((cValue v4b).map .p), .p (.int .i64 d5b.f0)] (.tup [.sref 0 46 5 (y_30.1).length, .sref 1 36 2 (y_30.2.1).length, .p (.int .i64 y_30.2.2)]) [(oL true 46 5 cCached dCached y_30.1), (oL true 36 2 cEntry dEntry y_30.2.1)])], .n 1, .r [(8, .callL [.agg ((cCache c3b).map .p), .p (eL 5 cCached dCached y_30.1), .p (eL 2 cEntry dEntry ([] : List TEntry)), .agg ((cValue v4b).map .p), .p (.int .i64 (IntKind.i64.wrap (d5b.f0 + d5b.f1)))] (.tup [.sref 0 46 5 (y_32.1).length, .sref 1 36 2 (y_32.2.1).length, .p (.int .i64 y_32.2.2)]) [(oL true 46 5 cCached dCached y_32.1), (oL true 36 2 cEntry dEntry y_32.2.1)])], .n 4, .r [(4, .dec false)], .n 3, .r [(2, .dec true), (6, .dec true), (11, .dec true), (17, .dec true), (18, .call (.p (.bool y_45)) [])]] (by kernel_rfl) (Obs.of (by kernel_rfl) (And.intro g_19 (And.intro (nt g_20) (And.intro (nt g_24) (And.intro (nt g_27) (And.intro (le_one 36 2 cEntry dEntry (TEntry.mk row7 1)) (And.intro (show 0 ≤ (0 : Int) ∧ (0 : Int) < ((2 : Nat) : Int) from by decide) (And.intro (And.intro (fls_cons (fle_rfl (.agg ((cCache c3b).map .p))) (fls_cons (fle_nil 5 cCached dCached) (fls_cons (fle_rfl (.p (eL 2 cEntry dEntry ([(TEntry.mk row7 1)])))) (fls_cons (fle_rfl (.agg ((cValue v4b).map .p))) (fls_cons (fle_rfl (.p (.int .i64 d5b.f0))) fls_nil))))) (cache_Lookup.spec e_31)) (And.intro (show 0 ≤ (0 : Int) ∧ (0 : Int) < ((2 : Nat) : Int) from by decide) (And.intro (show 0 ≤ (1 : Int) ∧ (1 : Int) < ((2 : Nat) : Int) from by decide) (And.intro (And.intro (fls_cons (fle_rfl (.agg ((cCache c3b).map .p))) (fls_cons (fle_rfl (.p (eL 5 cCached dCached y_30.1))) (fls_cons (fle_nil 2 cEntry dEntry) (fls_cons (fle_rfl (.agg ((cValue v4b).map .p))) (fls_cons (fle_rfl (.p (.int .i64 (IntKind.i64.wrap (d5b.f0 + d5b.f1))))) fls_nil))))) (cache_Lookup.spec e_33)) (And.intro (show 0 ≤ (1 : Int) ∧ (1 : Int) < ((2 : Nat) : Int) from by decide) (And.intro (nt g_34) (And.intro g_41 (And.intro g_42 (And.intro g_43 (And.intro g_44 (erasurelaw30_awake.spec e_46))))))))))))))))))
                    · obtain rfl := Option.some.inj h
                      exact RunC.out [.n 2, .r [(4, .dec true), (7, .dec false)], .n 4, .r [(3, .dec false), (7, .dec false)], .n 3, .r [(2, .obj (oL true 36 2 cEntry dEntry [(TEntry.mk row7 1)]))], .n 1, .r [(5, .callL [.agg ((cCache c3b).map .p), .p (eL 5 cCached dCached ([] : List TCached)), .p (eL 2 cEntry dEntry ([(TEntry.mk row7 1)])), .agg ((cValue v4b).map .p), .p (.int .i64 d5b.f0)] (.tup [.sref 0 46 5 (y_30.1).length, .sref 1 36 2 (y_30.2.1).length, .p (.int .i64 y_30.2.2)]) [(oL true 46 5 cCached dCached y_30.1), (oL true 36 2 cEntry dEntry y_30.2.1)])], .n 1, .r [(8, .callL [.agg ((cCache c3b).map .p), .p (eL 5 cCached dCached y_30.1), .p (eL 2 cEntry dEntry ([] : List TEntry)), .agg ((cValue v4b).map .p), .p (.int .i64 (IntKind.i64.wrap (d5b.f0 + d5b.f1)))] (.tup [.sref 0 46 5 (y_32.1).length, .sref 1 36 2 (y_32.2.1).length, .p (.int .i64 y_32.2.2)]) [(oL true 46 5 cCached dCached y_32.1), (oL true 36 2 cEntry dEntry y_32.2.1)])], .n 4, .r [(4, .dec false)], .n 3, .r [(2, .dec true), (6, .dec true), (11, .dec true), (17, .dec false)]] (by kernel_rfl) (Obs.of (by kernel_rfl) (And.intro g_19 (And.intro (nt g_20) (And.intro (nt g_24) (And.intro (nt g_27) (And.intro (le_one 36 2 cEntry dEntry (TEntry.mk row7 1)) (And.intro (show 0 ≤ (0 : Int) ∧ (0 : Int) < ((2 : Nat) : Int) from by decide) (And.intro (And.intro (fls_cons (fle_rfl (.agg ((cCache c3b).map .p))) (fls_cons (fle_nil 5 cCached dCached) (fls_cons (fle_rfl (.p (eL 2 cEntry dEntry ([(TEntry.mk row7 1)])))) (fls_cons (fle_rfl (.agg ((cValue v4b).map .p))) (fls_cons (fle_rfl (.p (.int .i64 d5b.f0))) fls_nil))))) (cache_Lookup.spec e_31)) (And.intro (show 0 ≤ (0 : Int) ∧ (0 : Int) < ((2 : Nat) : Int) from by decide) (And.intro (show 0 ≤ (1 : Int) ∧ (1 : Int) < ((2 : Nat) : Int) from by decide) (And.intro (And.intro (fls_cons (fle_rfl (.agg ((cCache c3b).map .p))) (fls_cons (fle_rfl (.p (eL 5 cCached dCached y_30.1))) (fls_cons (fle_nil 2 cEntry dEntry) (fls_cons (fle_rfl (.agg ((cValue v4b).map .p))) (fls_cons (fle_rfl (.p (.int .i64 (IntKind.i64.wrap (d5b.f0 + d5b.f1))))) fls_nil))))) (cache_Lookup.spec e_33)) (And.intro (show 0 ≤ (1 : Int) ∧ (1 : Int) < ((2 : Nat) : Int) from by decide) (And.intro (nt g_34) (And.intro g_41 (And.intro g_42 (And.intro g_43 (nt g_44)))))))))))))))))
                  · obtain rfl := Option.some.inj h
                    exact RunC.out [.n 2, .r [(4, .dec true), (7, .dec false)], .n 4, .r [(3, .dec false), (7, .dec false)], .n 3, .r [(2, .obj (oL true 36 2 cEntry dEntry [(TEntry.mk row7 1)]))], .n 1, .r [(5, .callL [.agg ((cCache c3b).map .p), .p (eL 5 cCached dCached ([] : List TCached)), .p (eL 2 cEntry dEntry ([(TEntry.mk row7 1)])), .agg ((cValue v4b).map .p), .p (.int .i64 d5b.f0)] (.tup [.sref 0 46 5 (y_30.1).length, .sref 1 36 2 (y_30.2.1).length, .p (.int .i64 y_30.2.2)]) [(oL true 46 5 cCached dCached y_30.1), (oL true 36 2 cEntry dEntry y_30.2.1)])], .n 1, .r [(8, .callL [.agg ((cCache c3b).map .p), .p (eL 5 cCached dCached y_30.1), .p (eL 2 cEntry dEntry ([] : List TEntry)), .agg ((cValue v4b).map .p), .p (.int .i64 (IntKind.i64.wrap (d5b.f0 + d5b.f1)))] (.tup [.sref 0 46 5 (y_32.1).length, .sref 1 36 2 (y_32.2.1).length, .p (.int .i64 y_32.2.2)]) [(oL true 46 5 cCached dCached y_32.1), (oL true 36 2 cEntry dEntry y_32.2.1)])], .n 4, .r [(4, .dec false)], .n 3, .r [(2, .dec true), (6, .dec true), (11, .dec false)]] (by kernel_rfl) (Obs.of (by kernel_rfl) (And.intro g_19 (And.intro (nt g_20) (And.intro (nt g_24) (And.intro (nt g_27) (And.intro (le_one 36 2 cEntry dEntry (TEntry.mk row7 1)) (And.intro (show 0 ≤ (0 : Int) ∧ (0 : Int) < ((2 : Nat) : Int) from by decide) (And.intro (And.intro (fls_cons (fle_rfl (.agg ((cCache c3b).map .p))) (fls_cons (fle_nil 5 cCached dCached) (fls_cons (fle_rfl (.p (eL 2 cEntry dEntry ([(TEntry.mk row7 1)])))) (fls_cons (fle_rfl (.agg ((cValue v4b).map .p))) (fls_cons (fle_rfl (.p (.int .i64 d5b.f0))) fls_nil))))) (cache_Lookup.spec e_31)) (And.intro (show 0 ≤ (0 : Int) ∧ (0 : Int) < ((2 : Nat) : Int) from by decide) (And.intro (show 0 ≤ (1 : Int) ∧ (1 : Int) < ((2 : Nat) : Int) from by decide) (And.intro (And.intro (fls_cons (fle_rfl (.agg ((cCache c3b).map .p))) (fls_cons (fle_rfl (.p (eL 5 cCached dCached y_30.1))) (fls_cons (fle_nil 2 cEntry dEntry) (fls_cons (fle_rfl (.agg ((cValue v4b).map .p))) (fls_cons (fle_rfl (.p (.int .i64 (IntKind.i64.wrap (d5b.f0 + d5b.f1))))) fls_nil))))) (cache_Lookup.spec e_33)) (And.intro (show 0 ≤ (1 : Int) ∧ (1 : Int) < ((2 : Nat) : Int) from by decide) (And.intro (nt g_34) (And.intro g_41 (And.intro g_42 (nt g_43))))))))))))))))
                · obtain rfl := Option.some.inj h
                  exact RunC.out [.n 2, .r [(4, .dec true), (7, .dec false)], .n 4, .r [(3, .dec false), (7, .dec false)], .n 3, .r [(2, .obj (oL true 36 2 cEntry dEntry [(TEntry.mk row7 1)]))], .n 1, .r [(5, .callL [.agg ((cCache c3b).map .p), .p (eL 5 cCached dCached ([] : List TCached)), .p (eL 2 cEntry dEntry ([(TEntry.mk row7 1)])), .agg ((cValue v4b).map .p), .p (.int .i64 d5b.f0)] (.tup [.sref 0 46 5 (y_30.1).length, .sref 1 36 2 (y_30.2.1).length, .p (.int .i64 y_30.2.2)]) [(oL true 46 5 cCached dCached y_30.1), (oL true 36 2 cEntry dEntry y_30.2.1)])], .n 1, .r [(8, .callL [.agg ((cCache c3b).map .p), .p (eL 5 cCached dCached y_30.1), .p (eL 2 cEntry dEntry ([] : List TEntry)), .agg ((cValue v4b).map .p), .p (.int .i64 (IntKind.i64.wrap (d5b.f0 + d5b.f1)))] (.tup [.sref 0 46 5 (y_32.1).length, .sref 1 36 2 (y_32.2.1).length, .p (.int .i64 y_32.2.2)]) [(oL true 46 5 cCached dCached y_32.1), (oL true 36 2 cEntry dEntry y_32.2.1)])], .n 4, .r [(4, .dec false)], .n 3, .r [(2, .dec true), (6, .dec false)]] (by kernel_rfl) (Obs.of (by kernel_rfl) (And.intro g_19 (And.intro (nt g_20) (And.intro (nt g_24) (And.intro (nt g_27) (And.intro (le_one 36 2 cEntry dEntry (TEntry.mk row7 1)) (And.intro (show 0 ≤ (0 : Int) ∧ (0 : Int) < ((2 : Nat) : Int) from by decide) (And.intro (And.intro (fls_cons (fle_rfl (.agg ((cCache c3b).map .p))) (fls_cons (fle_nil 5 cCached dCached) (fls_cons (fle_rfl (.p (eL 2 cEntry dEntry ([(TEntry.mk row7 1)])))) (fls_cons (fle_rfl (.agg ((cValue v4b).map .p))) (fls_cons (fle_rfl (.p (.int .i64 d5b.f0))) fls_nil))))) (cache_Lookup.spec e_31)) (And.intro (show 0 ≤ (0 : Int) ∧ (0 : Int) < ((2 : Nat) : Int) from by decide) (And.intro (show 0 ≤ (1 : Int) ∧ (1 : Int) < ((2 : Nat) : Int) from by decide) (And.intro (And.intro (fls_cons (fle_rfl (.agg ((cCache c3b).map .p))) (fls_cons (fle_rfl (.p (eL 5 cCached dCached y_30.1))) (fls_cons (fle_nil 2 cEntry dEntry) (fls_cons (fle_rfl (.agg ((cValue v4b).map .p))) (fls_cons (fle_rfl (.p (.int .i64 (IntKind.i64.wrap (d5b.f0 + d5b.f1))))) fls_nil))))) (cache_Lookup.spec e_33)) (And.intro (show 0 ≤ (1 : Int) ∧ (1 : Int) < ((2 : Nat) : Int) from by decide) (And.intro (nt g_34) (And.intro g_41 (nt g_42)))))))))))))))
              · obtain rfl := Option.some.inj h
                exact RunC.out [.n 2, .r [(4, .dec true), (7, .dec false)], .n 4, .r [(3, .dec false), (7, .dec false)], .n 3, .r [(2, .obj (oL true 36 2 cEntry dEntry [(TEntry.mk row7 1)]))], .n 1, .r [(5, .callL [.agg ((cCache c3b).map .p), .p (eL 5 cCached dCached ([] : List TCached)), .p (eL 2 cEntry dEntry ([(TEntry.mk row7 1)])), .agg ((cValue v4b).map .p), .p (.int .i64 d5b.f0)] (.tup [.sref 0 46 5 (y_30.1).length, .sref 1 36 2 (y_30.2.1).length, .p (.int .i64 y_30.2.2)]) [(oL true 46 5 cCached dCached y_30.1), (oL true 36 2 cEntry dEntry y_30.2.1)])], .n 1, .r [(8, .callL [.agg ((cCache c3b).map .p), .p (eL 5 cCached dCached y_30.1), .p (eL 2 cEntry dEntry ([] : List TEntry)), .agg ((cValue v4b).map .p), .p (.int .i64 (IntKind.i64.wrap (d5b.f0 + d5b.f1)))] (.tup [.sref 0 46 5 (y_32.1).length, .sref 1 36 2 (y_32.2.1).length, .p (.int .i64 y_32.2.2)]) [(oL true 46 5 cCached dCached y_32.1), (oL true 36 2 cEntry dEntry y_32.2.1)])], .n 4, .r [(4, .dec false)], .n 3, .r [(2, .dec false)]] (by kernel_rfl) (Obs.of (by kernel_rfl) (And.intro g_19 (And.intro (nt g_20) (And.intro (nt g_24) (And.intro (nt g_27) (And.intro (le_one 36 2 cEntry dEntry (TEntry.mk row7 1)) (And.intro (show 0 ≤ (0 : Int) ∧ (0 : Int) < ((2 : Nat) : Int) from by decide) (And.intro (And.intro (fls_cons (fle_rfl (.agg ((cCache c3b).map .p))) (fls_cons (fle_nil 5 cCached dCached) (fls_cons (fle_rfl (.p (eL 2 cEntry dEntry ([(TEntry.mk row7 1)])))) (fls_cons (fle_rfl (.agg ((cValue v4b).map .p))) (fls_cons (fle_rfl (.p (.int .i64 d5b.f0))) fls_nil))))) (cache_Lookup.spec e_31)) (And.intro (show 0 ≤ (0 : Int) ∧ (0 : Int) < ((2 : Nat) : Int) from by decide) (And.intro (show 0 ≤ (1 : Int) ∧ (1 : Int) < ((2 : Nat) : Int) from by decide) (And.intro (And.intro (fls_cons (fle_rfl (.agg ((cCache c3b).map .p))) (fls_cons (fle_rfl (.p (eL 5 cCached dCached y_30.1))) (fls_cons (fle_nil 2 cEntry dEntry) (fls_cons (fle_rfl (.agg ((cValue v4b).map .p))) (fls_cons (fle_rfl (.p (.int .i64 (IntKind.i64.wrap (d5b.f0 + d5b.f1))))) fls_nil))))) (cache_Lookup.spec e_33)) (And.intro (show 0 ≤ (1 : Int) ∧ (1 : Int) < ((2 : Nat) : Int) from by decide) (And.intro (nt g_34) (nt g_41))))))))))))))
    · rcases ite_or h with ⟨g_47, h⟩ | ⟨g_47, h⟩
      · obtain ⟨y_48, e_49, h⟩ := bind_or h
        obtain rfl := Option.some.inj h
        exact RunC.out [.n 2, .r [(4, .dec false)], .n 4, .r [(3, .dec true)], .n 2, .r [(0, .call (.p (.bool y_48)) [])]] (by kernel_rfl) (Obs.of (by kernel_rfl) (And.intro (nt g_19) (And.intro g_47 (erasurelaw30_awake.spec e_49))))
      · rcases ite_or h with ⟨g_50, h⟩ | ⟨g_50, h⟩
        · obtain ⟨y_51, e_52, h⟩ := bind_or h
          obtain rfl := Option.some.inj h
          exact RunC.out [.n 2, .r [(4, .dec false)], .n 4, .r [(3, .dec false), (7, .dec true)], .n 2, .r [(0, .call (.p (.bool y_51)) [])]] (by kernel_rfl) (Obs.of (by kernel_rfl) (And.intro (nt g_19) (And.intro (nt g_47) (And.intro g_50 (erasurelaw30_awake.spec e_52)))))
        · obtain ⟨y_53, e_54, h⟩ := bind_or h
          obtain ⟨y_55, e_56, h⟩ := bind_or h
          rcases ite_or h with ⟨g_57, h⟩ | ⟨g_57, h⟩
          · rcases ite_or h with ⟨g_58, h⟩ | ⟨g_58, h⟩
            · rcases ite_or h with ⟨g_59, h⟩ | ⟨g_59, h⟩
              · rcases ite_or h with ⟨g_60, h⟩ | ⟨g_60, h⟩
                · rcases ite_or h with ⟨g_61, h⟩ | ⟨g_61, h⟩
                  · obtain ⟨y_62, e_63, h⟩ := bind_or h
                    obtain rfl := Option.some.inj h
                    exact RunC.out [.n 2, .r [(4, .dec false)], .n 4, .r [(3, .dec false), (7, .dec false)], .n 3, .r [(2, .obj (oL true 36 2 cEntry dEntry [(TEntry.mk row7 1)]))], .n 1, .r [(5, .callL [.agg ((cCache c3b).map .p), .p (eL 5 cCached dCached ([] : List TCached)), .p (eL 2 cEntry dEntry ([(TEntry.mk row7 1)])), .agg ((cValue v4b).map .p), .p (.int .i64 d5b.f0)] (.tup [.sref 0 46 5 (y_53.1).length, .sref 1 36 2 (y_53.2.1).length, .p (.int .i64 y_53.2.2)]) [(oL true 46 5 cCached dCached y_53.1), (oL true 36 2 cEntry dEntry y_53.2.1)])], .n 1, .r [(8, .callL [.agg ((cCache c3b).map .p), .p (eL 5 cCached dCached y_53.1), .p (eL 2 cEntry dEntry ([] : List TEntry)), .agg ((cValue v4b).map .p), .p (.int .i64 (IntKind.i64.wrap (d5b.f0 + d5b.f1)))] (.tup [.sref 0 46 5 (y_55.1).length, .sref 1 36 2 (y_55.2.1).length, .p (.int .i64 y_55.2.2)]) [(oL true 46 5 cCached dCached y_55.1), (oL true 36 2 cEntry dEntry y_55.2.1)])], .n 4, .r [(4, .dec true)], .n 3, .r [(2, .dec true), (6, .dec true), (11, .dec true), (17, .dec true), (18, .call (.p (.bool y_62)) [])]] (by kernel_rfl) (Obs.of (by kernel_rfl) (And.intro (nt g_19) (And.intro (nt g_47) (And.intro (nt g_50) (And.intro (le_one 36 2 cEntry dEntry (TEntry.mk row7 1)) (And.intro (show 0 ≤ (0 : Int) ∧ (0 : Int) < ((2 : Nat) : Int) from by decide) (And.intro (And.intro (fls_cons (fle_rfl (.agg ((cCache c3b).map .p))) (fls_cons (fle_nil 5 cCached dCached) (fls_cons (fle_rfl (.p (eL 2 cEntry dEntry ([(TEntry.mk row7 1)])))) (fls_cons (fle_rfl (.agg ((cValue v4b).map .p))) (fls_cons (fle_rfl (.p (.int .i64 d5b.f0))) fls_nil))))) (cache_Lookup.spec e_54)) (And.intro (show 0 ≤ (0 : Int) ∧ (0 : Int) < ((2 : Nat) : Int) from by decide) (And.intro (show 0 ≤ (1 : Int) ∧ (1 : Int) < ((2 : Nat) : Int) from by decide) (And.intro (And.intro (fls_cons (fle_rfl (.agg ((cCache c3b).map .p))) (fls_cons (fle_rfl (.p (eL 5 cCached dCached y_53.1))) (fls_cons (fle_nil 2 cEntry dEntry) (fls_cons (fle_rfl (.agg ((cValue v4b).map .p))) (fls_cons (fle_rfl (.p (.int .i64 (IntKind.i64.wrap (d5b.f0 + d5b.f1))))) fls_nil))))) (cache_Lookup.spec e_56)) (And.intro (show 0 ≤ (1 : Int) ∧ (1 : Int) < ((2 : Nat) : Int) from by decide) (And.intro g_57 (And.intro g_58 (And.intro g_59 (And.intro g_60 (And.intro g_61 (erasurelaw30_awake.spec e_63)))))))))))))))))
                  · obtain rfl := Option.some.inj h
                    exact RunC.out [.n 2, .r [(4, .dec false)], .n 4, .r [(3, .dec false), (7, .dec false)], .n 3, .r [(2, .obj (oL true 36 2 cEntry dEntry [(TEntry.mk row7 1)]))], .n 1, .r [(5, .callL [.agg ((cCache c3b).map .p), .p (eL 5 cCached dCached ([] : List TCached)), .p (eL 2 cEntry dEntry ([(TEntry.mk row7 1)])), .agg ((cValue v4b).map .p), .p (.int .i64 d5b.f0)] (.tup [.sref 0 46 5 (y_53.1).length, .sref 1 36 2 (y_53.2.1).length, .p (.int .i64 y_53.2.2)]) [(oL true 46 5 cCached dCached y_53.1), (oL true 36 2 cEntry dEntry y_53.2.1)])], .n 1, .r [(8, .callL [.agg ((cCache c3b).map .p), .p (eL 5 cCached dCached y_53.1), .p (eL 2 cEntry dEntry ([] : List TEntry)), .agg ((cValue v4b).map .p), .p (.int .i64 (IntKind.i64.wrap (d5b.f0 + d5b.f1)))] (.tup [.sref 0 46 5 (y_55.1).length, .sref 1 36 2 (y_55.2.1).length, .p (.int .i64 y_55.2.2)]) [(oL true 46 5 cCached dCached y_55.1), (oL true 36 2 cEntry dEntry y_55.2.1)])], .n 4, .r [(4, .dec true)], .n 3, .r [(2, .dec true), (6, .dec true), (11, .dec true), (17, .dec false)]] (by kernel_rfl) (Obs.of (by kernel_rfl) (And.intro (nt g_19) (And.intro (nt g_47) (And.intro (nt g_50) (And.intro (le_one 36 2 cEntry dEntry (TEntry.mk row7 1)) (And.intro (show 0 ≤ (0 : Int) ∧ (0 : Int) < ((2 : Nat) : Int) from by decide) (And.intro (And.intro (fls_cons (fle_rfl (.agg ((cCache c3b).map .p))) (fls_cons (fle_nil 5 cCached dCached) (fls_cons (fle_rfl (.p (eL 2 cEntry dEntry ([(TEntry.mk row7 1)])))) (fls_cons (fle_rfl (.agg ((cValue v4b).map .p))) (fls_cons (fle_rfl (.p (.int .i64 d5b.f0))) fls_nil))))) (cache_Lookup.spec e_54)) (And.intro (show 0 ≤ (0 : Int) ∧ (0 : Int) < ((2 : Nat) : Int) from by decide) (And.intro (show 0 ≤ (1 : Int) ∧ (1 : Int) < ((2 : Nat) : Int) from by decide) (And.intro (And.intro (fls_cons (fle_rfl (.agg ((cCache c3b).map .p))) (fls_cons (fle_rfl (.p (eL 5 cCached dCached y_53.1))) (fls_cons (fle_nil 2 cEntry dEntry) (fls_cons (fle_rfl (.agg ((cValue v4b).map .p))) (fls_cons (fle_rfl (.p (.int .i64 (IntKind.i64.wrap (d5b.f0 + d5b.f1))))) fls_nil))))) (cache_Lookup.spec e_56)) (And.intro (show 0 ≤ (1 : Int) ∧ (1 : Int) < ((2 : Nat) : Int) from by decide) (And.intro g_57 (And.intro g_58 (And.intro g_59 (And.intro g_60 (nt g_61))))))))))))))))
                · obtain rfl := Option.some.inj h
                  exact RunC.out [.n 2, .r [(4, .dec false)], .n 4, .r [(3, .dec false), (7, .dec false)], .n 3, .r [(2, .obj (oL true 36 2 cEntry dEntry [(TEntry.mk row7 1)]))], .n 1, .r [(5, .callL [.agg ((cCache c3b).map .p), .p (eL 5 cCached dCached ([] : List TCached)), .p (eL 2 cEntry dEntry ([(TEntry.mk row7 1)])), .agg ((cValue v4b).map .p), .p (.int .i64 d5b.f0)] (.tup [.sref 0 46 5 (y_53.1).length, .sref 1 36 2 (y_53.2.1).length, .p (.int .i64 y_53.2.2)]) [(oL true 46 5 cCached dCached y_53.1), (oL true 36 2 cEntry dEntry y_53.2.1)])], .n 1, .r [(8, .callL [.agg ((cCache c3b).map .p), .p (eL 5 cCached dCached y_53.1), .p (eL 2 cEntry dEntry ([] : List TEntry)), .agg ((cValue v4b).map .p), .p (.int .i64 (IntKind.i64.wrap (d5b.f0 + d5b.f1)))] (.tup [.sref 0 46 5 (y_55.1).length, .sref 1 36 2 (y_55.2.1).length, .p (.int .i64 y_55.2.2)]) [(oL true 46 5 cCached dCached y_55.1), (oL true 36 2 cEntry dEntry y_55.2.1)])], .n 4, .r [(4, .dec true)], .n 3, .r [(2, .dec true), (6, .dec true), (11, .dec false)]] (by kernel_rfl) (Obs.of (by kernel_rfl) (And.intro (nt g_19) (And.intro (nt g_47) (And.intro (nt g_50) (And.intro (le_one 36 2 cEntry dEntry (TEntry.mk row7 1)) (And.intro (show 0 ≤ (0 : Int) ∧ (0 : Int) < ((2 : Nat) : Int) from by decide) (And.intro (And.intro (fls_cons (fle_rfl (.agg ((cCache c3b).map .p))) (fls_cons (fle_nil 5 cCached dCached) (fls_cons (fle_rfl (.p (eL 2 cEntry dEntry ([(TEntry.mk row7 1)])))) (fls_cons (fle_rfl (.agg ((cValue v4b).map .p))) (fls_cons (fle_rfl (.p (.int .i64 d5b.f0))) fls_nil))))) (cache_Lookup.spec e_54)) (And.intro (show 0 ≤ (0 : Int) ∧ (0 : Int) < ((2 : Nat) : Int) from by decide) (And.intro (show 0 ≤ (1 : Int) ∧ (1 : Int) < ((2 : Nat) : Int) from by decide) (And.intro (And.intro (fls_cons (fle_rfl (.agg ((cCache c3b).map .p))) (fls_cons (fle_rfl (.p (eL 5 cCached dCached y_53.1))) (fls_cons (fle_nil 2 cEntry dEntry) (fls_cons (fle_rfl (.agg ((cValue v4b).map .p))) (fls_cons (fle_rfl (.p (.int .i64 (IntKind.i64.wrap (d5b.f0 + d5b.f1))))) fls_nil))))) (cache_Lookup.spec e_56)) (And.intro (show 0 ≤ (1 : Int) ∧ (1 : Int) < ((2 : Nat) : Int) from by decide) (And.intro g_57 (And.intro g_58 (And.intro g_59 (nt g_60)))))))))))))))
              · obtain rfl := Option.some.inj h
                exact RunC.out [.n 2, .r [(4, .dec false)], .n 4, .r [(3, .dec false), (7, .dec false)], .n 3, .r [(2, .obj (oL true 36 2 cEntry dEntry [(TEntry.mk row7 1)]))], .n 1, .r [(5, .callL [.agg ((cCache c3b).map .p), .p (eL 5 cCached dCached ([] : List TCached)), .p (eL 2 cEntry dEntry ([(TEntry.mk row7 1)])), .agg ((cValue v4b).map .p), .p (.int .i64 d5b.f0)] (.tup [.sref 0 46 5 (y_53.1).length, .sref 1 36 2 (y_53.2.1).length, .p (.int .i64 y_53.2.2)]) [(oL true 46 5 cCached dCached y_53.1), (oL true 36 2 cEntry dEntry y_53.2.1)])], .n 1, .r [(8, .callL [.agg ((cCache c3b).map .p), .p (eL 5 cCached dCached y_53.1), .p (eL 2 cEntry dEntry ([] : List TEntry)), .agg ((cValue v4b).map .p), .p (.int .i64 (IntKind.i64.wrap (d5b.f0 + d5b.f1)))] (.tup [.sref 0 46 5 (y_55.1).length, .sref 1 36 2 (y_55.2.1).length, .p (.int .i64 y_55.2.2)]) [(oL true 46 5 cCached dCached y_55.1), (oL true 36 2 cEntry dEntry y_55.2.1)])], .n 4, .r [(4, .dec true)], .n 3, .r [(2, .dec true), (6, .dec false)]] (by kernel_rfl) (Obs.of (by kernel_rfl) (And.intro (nt g_19) (And.intro (nt g_47) (And.intro (nt g_50) (And.intro (le_one 36 2 cEntry dEntry (TEntry.mk row7 1)) (And.intro (show 0 ≤ (0 : Int) ∧ (0 : Int) < ((2 : Nat) : Int) from by decide) (And.intro (And.intro (fls_cons (fle_rfl (.agg ((cCache c3b).map .p))) (fls_cons (fle_nil 5 cCached dCached) (fls_cons (fle_rfl (.p (eL 2 cEntry dEntry ([(TEntry.mk row7 1)])))) (fls_cons (fle_rfl (.agg ((cValue v4b).map .p))) (fls_cons (fle_rfl (.p (.int .i64 d5b.f0))) fls_nil))))) (cache_Lookup.spec e_54)) (And.intro (show 0 ≤ (0 : Int) ∧ (0 : Int) < ((2 : Nat) : Int) from by decide) (And.intro (show 0 ≤ (1 : Int) ∧ (1 : Int) < ((2 : Nat) : Int) from by decide) (And.intro (And.intro (fls_cons (fle_rfl (.agg ((cCache c3b).map .p))) (fls_cons (fle_rfl (.p (eL 5 cCached dCached y_53.1))) (fls_cons (fle_nil 2 cEntry dEntry) (fls_cons (fle_rfl (.agg ((cValue v4b).map .p))) (fls_cons (fle_rfl (.p (.int .i64 (IntKind.i64.wrap (d5b.f0 + d5b.f1))))) fls_nil))))) (cache_Lookup.spec e_56)) (And.intro (show 0 ≤ (1 : Int) ∧ (1 : Int) < ((2 : Nat) : Int) from by decide) (And.intro g_57 (And.intro g_58 (nt g_59))))))))))))))
            · obtain rfl := Option.some.inj h
              exact RunC.out [.n 2, .r [(4, .dec false)], .n 4, .r [(3, .dec false), (7, .dec false)], .n 3, .r [(2, .obj (oL true 36 2 cEntry dEntry [(TEntry.mk row7 1)]))], .n 1, .r [(5, .callL [.agg ((cCache c3b).map .p), .p (eL 5 cCached dCached ([] : List TCached)), .p (eL 2 cEntry dEntry ([(TEntry.mk row7 1)])), .agg ((cValue v4b).map .p), .p (.int .i64 d5b.f0)] (.tup [.sref 0 46 5 (y_53.1).length, .sref 1 36 2 (y_53.2.1).length, .p (.int .i64 y_53.2.2)]) [(oL true 46 5 cCached dCached y_53.1), (oL true 36 2 cEntry dEntry y_53.2.1)])], .n 1, .r [(8, .callL [.agg ((cCache c3b).map .p), .p (eL 5 cCached dCached y_53.1), .p (eL 2 cEntry dEntry ([] : List TEntry)), .agg ((cValue v4b).map .p), .p (.int .i64 (IntKind.i64.wrap (d5b.f0 + d5b.f1)))] (.tup [.sref 0 46 5 (y_55.1).length, .sref 1 36 2 (y_55.2.1).length, .p (.int .i64 y_55.2.2)]) [(oL true 46 5 cCached dCached y_55.1), (oL true 36 2 cEntry dEntry y_55.2.1)])], .n 4, .r [(4, .dec true)], .n 3, .r [(2, .dec false)]] (by kernel_rfl) (Obs.of (by kernel_rfl) (And.intro (nt g_19) (And.intro (nt g_47) (And.intro (nt g_50) (And.intro (le_one 36 2 cEntry dEntry (TEntry.mk row7 1)) (And.intro (show 0 ≤ (0 : Int) ∧ (0 : Int) < ((2 : Nat) : Int) from by decide) (And.intro (And.intro (fls_cons (fle_rfl (.agg ((cCache c3b).map .p))) (fls_cons (fle_nil 5 cCached dCached) (fls_cons (fle_rfl (.p (eL 2 cEntry dEntry ([(TEntry.mk row7 1)])))) (fls_cons (fle_rfl (.agg ((cValue v4b).map .p))) (fls_cons (fle_rfl (.p (.int .i64 d5b.f0))) fls_nil))))) (cache_Lookup.spec e_54)) (And.intro (show 0 ≤ (0 : Int) ∧ (0 : Int) < ((2 : Nat) : Int) from by decide) (And.intro (show 0 ≤ (1 : Int) ∧ (1 : Int) < ((2 : Nat) : Int) from by decide) (And.intro (And.intro (fls_cons (fle_rfl (.agg ((cCache c3b).map .p))) (fls_cons (fle_rfl (.p (eL 5 cCached dCached y_53.1))) (fls_cons (fle_nil 2 cEntry dEntry) (fls_cons (fle_rfl (.agg ((cValue v4b).map .p))) (fls_cons (fle_rfl (.p (.int .i64 (IntKind.i64.wrap (d5b.f0 + d5b.f1))))) fls_nil))))) (cache_Lookup.spec e_56)) (And.intro (show 0 ≤ (1 : Int) ∧ (1 : Int) < ((2 : Nat) : Int) from by decide) (And.intro g_57 (nt g_58)))))))))))))
          · rcases ite_or h with ⟨g_64, h⟩ | ⟨g_64, h⟩
            · rcases ite_or h with ⟨g_65, h⟩ | ⟨g_65, h⟩
              · rcases ite_or h with ⟨g_66, h⟩ | ⟨g_66, h⟩
                · rcases ite_or h with ⟨g_67, h⟩ | ⟨g_67, h⟩
                  · obtain ⟨y_68, e_69, h⟩ := bind_or h
                    obtain rfl := Option.some.inj h
                    exact RunC.out [.n 2, .r [(4, .dec false)], .n 4, .r [(3, .dec false), (7, .dec false)], .n 3, .r [(2, .obj (oL true 36 2 cEntry dEntry [(TEntry.mk row7 1)]))], .n 1, .r [(5, .callL [.agg ((cCache c3b).map .p), .p (eL 5 cCached dCached ([] : List TCached)), .p (eL 2 cEntry dEntry ([(TEntry.mk row7 1)])), .agg ((cValue v4b).map .p), .p (.int .i64 d5b.f0)] (.tup [.sref 0 46 5 (y_53.1).length, .sref 1 36 2 (y_53.2.1).length, .p (.int .i64 y_53.2.2)]) [(oL true 46 5 cCached dCached y_53.1), (oL true 36 2 cEntry dEntry y_53.2.1)])], .n 1, .r [(8, .callL [.agg ((cCache c3b).map .p), .p (eL 5 cCached dCached y_53.1), .p (eL 2 cEntry dEntry ([] : List TEntry)), .agg ((cValue v4b).map .p), .p (.int .i64 (IntKind.i64.wrap (d5b.f0 + d5b.f1)))] (.tup [.sref 0 46 5 (y_55.1).length, .sref 1 36 2 (y_55.2.1).length, .p (.int .i64 y_55.2.2)]) [(oL true 46 5 cCached dCached y_55.1), (oL true 36 2 cEntry dEntry y_55.2.1)])], .n 4, .r [(4, .dec false)], .n 3, .r [(2, .dec true), (6, .dec true), (11, .dec true), (17, .dec true), (18, .call (.p (.bool y_68)) [])]] (by kernel_rfl) (Obs.of (by kernel_rfl) (And.intro (nt g_19) (And.intro (nt g_47) (And.intro (nt g_50) (And.intro (le_one 36 2 cEntry dEntry (TEntry.mk row7 1)) (And.intro (show 0 ≤ (0 : Int) ∧ (0 : Int) < ((2 : Nat) : Int) from by decide) (And.intro (And.intro (fls_cons (fle_rfl (.agg ((cCache c3b).map .p))) (fls_cons (fle_nil 5 cCached dCached) (fls_cons (fle_rfl (.p (eL 2 cEntry dEntry ([(TEntry.mk row7 1)])))) (fls_cons (fle_rfl (.agg ((cValue v4b).map .p))) (fls_cons (fle_rfl (.p (.int .i64 d5b.f0))) fls_nil))))) (cache_Lookup.spec e_54)) (And.intro (show 0 ≤ (0 : Int) ∧ (0 : Int) < ((2 : Nat) : Int) from by decide) (And.intro (show 0 ≤ (1 : Int) ∧ (1 : Int) < ((2 : Nat) : Int) from by decide) (And.intro (And.intro (fls_cons (fle_rfl (.agg ((cCache c3b).map .p))) (fls_cons (fle_rfl (.p (eL 5 cCached dCached y_53.1))) (fls_cons (fle_nil 2 cEntry dEntry) (fls_cons (fle_rfl (.agg ((cValue v4b).map .p))) (fls_cons (fle_rfl (.p (.int .i64 (IntKind.i64.wrap (d5b.f0 + d5b.f1))))) fls_nil))))) (cache_Lookup.spec e_56)) (And.intro (show 0 ≤ (1 : Int) ∧ (1 : Int) < ((2 : Nat) : Int) from by decide) (And.intro (nt g_57) (And.intro g_64 (And.intro g_65 (And.intro g_66 (And.intro g_67 (erasurelaw30_awake.spec e_69)))))))))))))))))
                  · obtain rfl := Option.some.inj h
                    exact RunC.out [.n 2, .r [(4, .dec false)], .n 4, .r [(3, .dec false), (7, .dec false)], .n 3, .r [(2, .obj (oL true 36 2 cEntry dEntry [(TEntry.mk row7 1)]))], .n 1, .r [(5, .callL [.agg ((cCache c3b).map .p), .p (eL 5 cCached dCached ([] : List TCached)), .p (eL 2 cEntry dEntry ([(TEntry.mk row7 1)])), .agg ((cValue v4b).map .p), .p (.int .i64 d5b.f0)] (.tup [.sref 0 46 5 (y_53.1).length, .sref 1 36 2 (y_53.2.1).length, .p (.int .i64 y_53.2.2)]) [(oL true 46 5 cCached dCached y_53.1), (oL true 36 2 cEntry dEntry y_53.2.1)])], .n 1, .r [(8, .callL [.agg ((cCache c3b).map .p), .p (eL 5 cCached dCached y_53.1), .p (eL 2 cEntry dEntry ([] : List TEntry)), .agg ((cValue v4b).map .p), .p (.int .i64 (IntKind.i64.wrap (d5b.f0 + d5b.f1)))] (.tup [.sref 0 46 5 (y_55.1).length, .sref 1 36 2 (y_55.2.1).length, .p (.int .i64 y_55.2.2)]) [(oL true 46 5 cCached dCached y_55.1), (oL true 36 2 cEntry dEntry y_55.2.1)])], .n 4, .r [(4, .dec false)], .n 3, .r [(2, .dec true), (6, .dec true), (11, .dec true), (17, .dec false)]] (by kernel_rfl) (Obs.of (by kernel_rfl) (And.intro (nt g_19) (And.intro (nt g_47) (And.intro (nt g_50) (And.intro (le_one 36 2 cEntry dEntry (TEntry.mk row7 1)) (And.intro (show 0 ≤ (0 : Int) ∧ (0 : Int) < ((2 : Nat) : Int) from by decide) (And.intro (And.intro (fls_cons (fle_rfl (.agg ((cCache c3b).map .p))) (fls_cons (fle_nil 5 cCached dCached) (fls_cons (fle_rfl (.p (eL 2 cEntry dEntry ([(TEntry.mk row7 1)])))) (fls_cons (fle_rfl (.agg ((cValue v4b).map .p))) (fls_cons (fle_rfl (.p (.int .i64 d5b.f0))) fls_nil))))) (cache_Lookup.spec e_54)) (And.intro (show 0 ≤ (0 : Int) ∧ (0 : Int) < ((2 : Nat) : Int) from by decide) (And.intro (show 0 ≤ (1 : Int) ∧ (1 : Int) < ((2 : Nat) : Int) from by decide) (And.intro (And.intro (fls_cons (fle_rfl (.agg ((cCache c3b).map .p))) (fls_cons (fle_rfl (.p (eL 5 cCached dCached y_53.1))) (fls_cons (fle_nil 2 cEntry dEntry) (fls_cons (fle_rfl (.agg ((cValue v4b).map .p))) (fls_cons (fle_rfl (.p (.int .i64 (IntKind.i64.wrap (d5b.f0 + d5b.f1))))) fls_nil))))) (cache_Lookup.spec e_56)) (And.intro (show 0 ≤ (1 : Int) ∧ (1 : Int) < ((2 : Nat) : Int) from by decide) (And.intro (nt g_57) (And.intro g_64 (And.intro g_65 (And.intro g_66 (nt g_67))))))))))))))))
                · obtain rfl := Option.some.inj h
                  exact RunC.out [.n 2, .r [(4, .dec false)], .n 4, .r [(3, .dec false), (7, .dec false)], .n 3, .r [(2, .obj (oL true 36 2 cEntry dEntry [(TEntry.mk row7 1)]))], .n 1, .r [(5, .callL [.agg ((cCache c3b).map .p), .p (eL 5 cCached dCached ([] : List TCached)), .p (eL 2 cEntry dEntry ([(TEntry.mk row7 1)])), .agg ((cValue v4b).map .p), .p (.int .i64 d5b.f0)] (.tup [.sref 0 46 5 (y_53.1).length, .sref 1 36 2 (y_53.2.1).length, .p (.int .i64 y_53.2.2)]) [(oL true 46 5 cCached dCached y_53.1), (oL true 36 2 cEntry dEntry y_53.2.1)])], .n 1, .r [(8, .callL [.agg ((cCache c3b).map .p), .p (eL 5 cCached dCached y_53.1), .p (eL 2 cEntry dEntry ([] : List TEntry)), .agg ((cValue v4b).map .p), .p (.int .i64 (IntKind.i64.wrap (d5b.f0 + d5b.f1)))] (.tup [.sref 0 46 5 (y_55.1).length, .sref 1 36 2 (y_55.2.1).length, .p (.int .i64 y_55.2.2)]) [(oL true 46 5 cCached dCached y_55.1), (oL true 36 2 cEntry dEntry y_55.2.1)])], .n 4, .r [(4, .dec false)], .n 3, .r [(2, .dec true), (6, .dec true), (11, .dec false)]] (by kernel_rfl) (Obs.of (by kernel_rfl) (And.intro (nt g_19) (And.intro (nt g_47) (And.intro (nt g_50) (And.intro (le_one 36 2 cEntry dEntry (TEntry.mk row7 1)) (And.intro (show 0 ≤ (0 : Int) ∧ (0 : Int) < ((2 : Nat) : Int) from by decide) (And.intro (And.intro (fls_cons (fle_rfl (.agg ((cCache c3b).map .p))) (fls_cons (fle_nil 5 cCached dCached) (fls_cons (fle_rfl (.p (eL 2 cEntry dEntry ([(TEntry.mk row7 1)])))) (fls_cons (fle_rfl (.agg ((cValue v4b).map .p))) (fls_cons (fle_rfl (.p (.int .i64 d5b.f0))) fls_nil))))) (cache_Lookup.spec e_54)) (And.intro (show 0 ≤ (0 : Int) ∧ (0 : Int) < ((2 : Nat) : Int) from by decide) (And.intro (show 0 ≤ (1 : Int) ∧ (1 : Int) < ((2 : Nat) : Int) from by decide) (And.intro (And.intro (fls_cons (fle_rfl (.agg ((cCache c3b).map .p))) (fls_cons (fle_rfl (.p (eL 5 cCached dCached y_53.1))) (fls_cons (fle_nil 2 cEntry dEntry) (fls_cons (fle_rfl (.agg ((cValue v4b).map .p))) (fls_cons (fle_rfl (.p (.int .i64 (IntKind.i64.wrap (d5b.f0 + d5b.f1))))) fls_nil))))) (cache_Lookup.spec e_56)) (And.intro (show 0 ≤ (1 : Int) ∧ (1 : Int) < ((2 : Nat) : Int) from by decide) (And.intro (nt g_57) (And.intro g_64 (And.intro g_65 (nt g_66)))))))))))))))
              · obtain rfl := Option.some.inj h
                exact RunC.out [.n 2, .r [(4, .dec false)], .n 4, .r [(3, .dec false), (7, .dec false)], .n 3, .r [(2, .obj (oL true 36 2 cEntry dEntry [(TEntry.mk row7 1)]))], .n 1, .r [(5, .callL [.agg ((cCache c3b).map .p), .p (eL 5 cCached dCached ([] : List TCached)), .p (eL 2 cEntry dEntry ([(TEntry.mk row7 1)])), .agg ((cValue v4b).map .p), .p (.int .i64 d5b.f0)] (.tup [.sref 0 46 5 (y_53.1).length, .sref 1 36 2 (y_53.2.1).length, .p (.int .i64 y_53.2.2)]) [(oL true 46 5 cCached dCached y_53.1), (oL true 36 2 cEntry dEntry y_53.2.1)])], .n 1, .r [(8, .callL [.agg ((cCache c3b).map .p), .p (eL 5 cCached dCached y_53.1), .p (eL 2 cEntry dEntry ([] : List TEntry)), .agg ((cValue v4b).map .p), .p (.int .i64 (IntKind.i64.wrap (d5b.f0 + d5b.f1)))] (.tup [.sref 0 46 5 (y_55.1).length, .sref 1 36 2 (y_55.2.1).length, .p (.int .i64 y_55.2.2)]) [(oL true 46 5 cCached dCached y_55.1), (oL true 36 2 cEntry dEntry y_55.2.1)])], .n 4, .r [(4, .dec false)], .n 3, .r [(2, .dec true), (6, .dec false)]] (by kernel_rfl) (Obs.of (by kernel_rfl) (And.intro (nt g_19) (And.intro (nt g_47) (And.intro (nt g_50) (And.intro (le_one 36 2 cEntry dEntry (TEntry.mk row7 1)) (And.intro (show 0 ≤ (0 : Int) ∧ (0 : Int) < ((2 : Nat) : Int) from by decide) (And.intro (And.intro (fls_cons (fle_rfl (.agg ((cCache c3b).map .p))) (fls_cons (fle_nil 5 cCached dCached) (fls_cons (fle_rfl (.p (eL 2 cEntry dEntry ([(TEntry.mk row7 1)])))) (fls_cons (fle_rfl (.agg ((cValue v4b).map .p))) (fls_cons (fle_rfl (.p (.int .i64 d5b.f0))) fls_nil))))) (cache_Lookup.spec e_54)) (And.intro (show 0 ≤ (0 : Int) ∧ (0 : Int) < ((2 : Nat) : Int) from by decide) (And.intro (show 0 ≤ (1 : Int) ∧ (1 : Int) < ((2 : Nat) : Int) from by decide) (And.intro (And.intro (fls_cons (fle_rfl (.agg ((cCache c3b).map .p))) (fls_cons (fle_rfl (.p (eL 5 cCached dCached y_53.1))) (fls_cons (fle_nil 2 cEntry dEntry) (fls_cons (fle_rfl (.agg ((cValue v4b).map .p))) (fls_cons (fle_rfl (.p (.int .i64 (IntKind.i64.wrap (d5b.f0 + d5b.f1))))) fls_nil))))) (cache_Lookup.spec e_56)) (And.intro (show 0 ≤ (1 : Int) ∧ (1 : Int) < ((2 : Nat) : Int) from by decide) (And.intro (nt g_57) (And.intro g_64 (nt g_65))))))))))))))
            · obtain rfl := Option.some.inj h
              exact RunC.out [.n 2, .r [(4, .dec false)], .n 4, .r [(3, .dec false), (7, .dec false)], .n 3, .r [(2, .obj (oL true 36 2 cEntry dEntry [(TEntry.mk row7 1)]))], .n 1, .r [(5, .callL [.agg ((cCache c3b).map .p), .p (eL 5 cCached dCached ([] : List TCached)), .p (eL 2 cEntry dEntry ([(TEntry.mk row7 1)])), .agg ((cValue v4b).map .p), .p (.int .i64 d5b.f0)] (.tup [.sref 0 46 5 (y_53.1).length, .sref 1 36 2 (y_53.2.1).length, .p (.int .i64 y_53.2.2)]) [(oL true 46 5 cCached dCached y_53.1), (oL true 36 2 cEntry dEntry y_53.2.1)])], .n 1, .r [(8, .callL [.agg ((cCache c3b).map .p), .p (eL 5 cCached dCached y_53.1), .p (eL 2 cEntry dEntry ([] : List TEntry)), .agg ((cValue v4b).map .p), .p (.int .i64 (IntKind.i64.wrap (d5b.f0 + d5b.f1)))] (.tup [.sref 0 46 5 (y_55.1).length, .sref 1 36 2 (y_55.2.1).length, .p (.int .i64 y_55.2.2)]) [(oL true 46 5 cCached dCached y_55.1), (oL true 36 2 cEntry dEntry y_55.2.1)])], .n 4, .r [(4, .dec false)], .n 3, .r [(2, .dec false)]] (by kernel_rfl) (Obs.of (by kernel_rfl) (And.intro (nt g_19) (And.intro (nt g_47) (And.intro (nt g_50) (And.intro (le_one 36 2 cEntry dEntry (TEntry.mk row7 1)) (And.intro (show 0 ≤ (0 : Int) ∧ (0 : Int) < ((2 : Nat) : Int) from by decide) (And.intro (And.intro (fls_cons (fle_rfl (.agg ((cCache c3b).map .p))) (fls_cons (fle_nil 5 cCached dCached) (fls_cons (fle_rfl (.p (eL 2 cEntry dEntry ([(TEntry.mk row7 1)])))) (fls_cons (fle_rfl (.agg ((cValue v4b).map .p))) (fls_cons (fle_rfl (.p (.int .i64 d5b.f0))) fls_nil))))) (cache_Lookup.spec e_54)) (And.intro (show 0 ≤ (0 : Int) ∧ (0 : Int) < ((2 : Nat) : Int) from by decide) (And.intro (show 0 ≤ (1 : Int) ∧ (1 : Int) < ((2 : Nat) : Int) from by decide) (And.intro (And.intro (fls_cons (fle_rfl (.agg ((cCache c3b).map .p))) (fls_cons (fle_rfl (.p (eL 5 cCached dCached y_53.1))) (fls_cons (fle_nil 2 cEntry dEntry) (fls_cons (fle_rfl (.agg ((cValue v4b).map .p))) (fls_cons (fle_rfl (.p (.int .i64 (IntKind.i64.wrap (d5b.f0 + d5b.f1))))) fls_nil))))) (cache_Lookup.spec e_56)) (And.intro (show 0 ≤ (1 : Int) ∧ (1 : Int) < ((2 : Nat) : Int) from by decide) (And.intro (nt g_57) (nt g_64)))))))))))))
theorem erasurelaw30_CacheServes.run   {k : Nat} {c0 : TCache} {v1 : TValue} {d2 : T32} {r : Bool} (h : erasurelaw30_CacheServes k c0 v1 d2 = some r) : RunC Try.prog Try.f4 erasurelaw30_CacheServes.t (erasurelaw30_CacheServes.s c0 v1 d2) (.p (.bool r)) [] := by
  unfold erasurelaw30_CacheServes at h
  rcases ite_or h with ⟨g_1, h⟩ | ⟨g_1, h⟩
  · obtain ⟨y_2, e_3, h⟩ := bind_or h
    obtain rfl := Option.some.inj h
    exact RunC.out [.n 4, .r [(3, .dec true)], .n 2, .r [(0, .call (.p (.bool y_2)) [])]] (by kernel_rfl) (Obs.of (by kernel_rfl) (And.intro g_1 (erasurelaw30_awake.spec e_3)))
  · rcases ite_or h with ⟨g_4, h⟩ | ⟨g_4, h⟩
    · obtain ⟨y_5, e_6, h⟩ := bind_or h
      obtain rfl := Option.some.inj h
      exact RunC.out [.n 4, .r [(3, .dec false), (8, .dec true)], .n 2, .r [(0, .call (.p (.bool y_5)) [])]] (by kernel_rfl) (Obs.of (by kernel_rfl) (And.intro (nt g_1) (And.intro g_4 (erasurelaw30_awake.spec e_6))))
    · rcases ite_or h with ⟨g_7, h⟩ | ⟨g_7, h⟩
      · obtain ⟨y_8, e_9, h⟩ := bind_or h
        obtain rfl := Option.some.inj h
        exact RunC.out [.n 4, .r [(3, .dec false), (8, .dec false), (13, .dec true)], .n 2, .r [(0, .call (.p (.bool y_8)) [])]] (by kernel_rfl) (Obs.of (by kernel_rfl) (And.intro (nt g_1) (And.intro (nt g_4) (And.intro (show 0 ≤ (0 : Int) ∧ (0 : Int) < ((2 : Nat) : Int) from by decide) (And.intro g_7 (erasurelaw30_awake.spec e_9))))))
      · rcases ite_or h with ⟨g_10, h⟩ | ⟨g_10, h⟩
        · obtain ⟨y_11, e_12, h⟩ := bind_or h
          obtain rfl := Option.some.inj h
          exact RunC.out [.n 4, .r [(3, .dec false), (8, .dec false), (13, .dec false), (18, .dec true)], .n 2, .r [(0, .call (.p (.bool y_11)) [])]] (by kernel_rfl) (Obs.of (by kernel_rfl) (And.intro (nt g_1) (And.intro (nt g_4) (And.intro (show 0 ≤ (0 : Int) ∧ (0 : Int) < ((2 : Nat) : Int) from by decide) (And.intro (nt g_7) (And.intro (show 0 ≤ (0 : Int) ∧ (0 : Int) < ((2 : Nat) : Int) from by decide) (And.intro g_10 (erasurelaw30_awake.spec e_12))))))))
        · rcases ite_or h with ⟨g_13, h⟩ | ⟨g_13, h⟩
          · obtain ⟨y_14, e_15, h⟩ := bind_or h
            obtain rfl := Option.some.inj h
            exact RunC.out [.n 4, .r [(3, .dec false), (8, .dec false), (13, .dec false), (18, .dec false), (23, .dec true)], .n 2, .r [(0, .call (.p (.bool y_14)) [])]] (by kernel_rfl) (Obs.of (by kernel_rfl) (And.intro (nt g_1) (And.intro (nt g_4) (And.intro (show 0 ≤ (0 : Int) ∧ (0 : Int) < ((2 : Nat) : Int) from by decide) (And.intro (nt g_7) (And.intro (show 0 ≤ (0 : Int) ∧ (0 : Int) < ((2 : Nat) : Int) from by decide) (And.intro (nt g_10) (And.intro (show 0 ≤ (1 : Int) ∧ (1 : Int) < ((2 : Nat) : Int) from by decide) (And.intro g_13 (erasurelaw30_awake.spec e_15))))))))))
          · rcases ite_or h with ⟨g_16, h⟩ | ⟨g_16, h⟩
            · obtain ⟨y_17, e_18, h⟩ := bind_or h
              obtain rfl := Option.some.inj h
              exact RunC.out [.n 4, .r [(3, .dec false), (8, .dec false), (13, .dec false), (18, .dec false), (23, .dec false), (27, .dec true)], .n 2, .r [(0, .call (.p (.bool y_17)) [])]] (by kernel_rfl) (Obs.of (by kernel_rfl) (And.intro (nt g_1) (And.intro (nt g_4) (And.intro (show 0 ≤ (0 : Int) ∧ (0 : Int) < ((2 : Nat) : Int) from by decide) (And.intro (nt g_7) (And.intro (show 0 ≤ (0 : Int) ∧ (0 : Int) < ((2 : Nat) : Int) from by decide) (And.intro (nt g_10) (And.intro (show 0 ≤ (1 : Int) ∧ (1 : Int) < ((2 : Nat) : Int) from by decide) (And.intro (nt g_13) (And.intro (show 0 ≤ (1 : Int) ∧ (1 : Int) < ((2 : Nat) : Int) from by decide) (And.intro g_16 (erasurelaw30_awake.spec e_18))))))))))))
            · exact RunC.go [.n 4, .r [(3, .dec false), (8, .dec false), (13, .dec false), (18, .dec false), (23, .dec false), (27, .dec false)], .n 3, .r [(0, .obj (oL true 24 3 cValue dValue ([] : List TValue)))], .n 5, .k [3, 4, 5, 7, 8]] (by kernel_rfl) (Obs.of (by kernel_rfl) (And.intro (nt g_1) (And.intro (nt g_4) (And.intro (show 0 ≤ (0 : Int) ∧ (0 : Int) < ((2 : Nat) : Int) from by decide) (And.intro (nt g_7) (And.intro (show 0 ≤ (0 : Int) ∧ (0 : Int) < ((2 : Nat) : Int) from by decide) (And.intro (nt g_10) (And.intro (show 0 ≤ (1 : Int) ∧ (1 : Int) < ((2 : Nat) : Int) from by decide) (And.intro (nt g_13) (And.intro (show 0 ≤ (1 : Int) ∧ (1 : Int) < ((2 : Nat) : Int) from by decide) (And.intro (nt g_16) (le_nil 24 3 cValue dValue)))))))))))) (erasurelaw30_CacheServes.p1.run k _ _ _ _ _ r h)
theorem erasurelaw30_CacheServes.p1.mono   : ∀ (k k' : Nat) (i8 : Int) (c3b : TCache) (v4b : TValue) (d5b : T32) (row7 : (List TValue)) (r : Bool), k ≤ k' → erasurelaw30_CacheServes.p1 k i8 c3b v4b d5b row7 = some r → erasurelaw30_CacheServes.p1 k' i8 c3b v4b d5b row7 = some r := by
  intro k
  induction k with
  | zero => intro k' i8 c3b v4b d5b row7 r hk h; simp [erasurelaw30_CacheServes.p1] at h
  | succ k ih =>
    intro k' i8 c3b v4b d5b row7 r hk h
    obtain ⟨k', rfl⟩ : ∃ m, k' = m + 1 := ⟨k' - 1, by omega⟩
    replace hk := Nat.le_of_succ_le_succ hk
    rw [erasurelaw30_CacheServes.p1] at h ⊢
    rcases ite_or h with ⟨g_19, h⟩ | ⟨g_19, h⟩
    · refine itp g_19 ?_
      rcases ite_or h with ⟨g_20, h⟩ | ⟨g_20, h⟩
      · refine itp g_20 ?_
        obtain ⟨y_21, e_22, h⟩ := bind_or h
        refine bnd (erasureref01_Clean.mono _ _ _ _ hk e_22) ?_
        obtain ⟨g_23, h⟩ := ite_some h
        refine itp g_23 ?_
        exact ih _ _ _ _ _ _ r hk h
      · refine itn g_20 ?_
        rcases ite_or h with ⟨g_24, h⟩ | ⟨g_24, h⟩
        · refine itp g_24 ?_
          obtain ⟨y_25, e_26, h⟩ := bind_or h
          refine bnd (erasurelaw30_awake.mono _ _  _ hk e_26) ?_
          exact h
        · refine itn g_24 ?_
          rcases ite_or h with ⟨g_27, h⟩ | ⟨g_27, h⟩
          · refine itp g_27 ?_
            obtain ⟨y_28, e_29, h⟩ := bind_or h
            refine bnd (erasurelaw30_awake.mono _ _  _ hk e_29) ?_
            exact h
          · refine itn g_27 ?_
            obtain ⟨y_30, e_31, h⟩ := bind_or h
            refine bnd (cache_Lookup.mono _ _ _ _ _ _ _ _ hk e_31) ?_
            obtain ⟨y_32, e_33, h⟩ := bind_or h
            refine bnd (cache_Lookup.mono _ _ _ _ _ _ _ _ hk e_33) ?_
            rcases ite_or h with ⟨g_34, h⟩ | ⟨g_34, h⟩
            · refine itp g_34 ?_
              rcases ite_or h with ⟨g_35, h⟩ | ⟨g_35, h⟩
              · refine itp g_35 ?_
                rcases ite_or h with ⟨g_36, h⟩ | ⟨g_36, h⟩
                · refine itp g_36 ?_
                  rcases ite_or h with ⟨g_37, h⟩ | ⟨g_37, h⟩
                  · refine itp g_37 ?_
                    rcases ite_or h with ⟨g_38, h⟩ | ⟨g_38, h⟩
                    · refine itp g_38 ?_
                      obtain ⟨y_39, e_40, h⟩ := bind_or h
                      refine bnd (erasurelaw30_awake.mono _ _  _ hk e_40) ?_
                      exact h
                    · refine itn g_38 ?_
                      exact h
                  · refine itn g_37 ?_
                    exact h
                · refine itn g_36 ?_
                  exact h
              · refine itn g_35 ?_
                exact h
            · refine itn g_34 ?_
              rcases ite_or h with ⟨g_41, h⟩ | ⟨g_41, h⟩
              · refine itp g_41 ?_
                rcases ite_or h with ⟨g_42, h⟩ | ⟨g_42, h⟩
                · refine itp g_42 ?_
                  rcases ite_or h with ⟨g_43, h⟩ | ⟨g_43, h⟩
                  · refine itp g_43 ?_
                    rcases ite_or h with ⟨g_44, h⟩ | ⟨g_44, h⟩
                    · refine itp g_44 ?_
                      obtain ⟨y_45, e_46, h⟩ := bind_or h
                      refine bnd (erasurelaw30_awake.mono _ _  _ hk e_46) ?_
                      exact h
                    · refine itn g_44 ?_
                      exact h
                  · refine itn g_43 ?_
                    exact h
                · refine itn g_42 ?_
                  exact h
              · refine itn g_41 ?_
                exact h
    · refine itn g_19 ?_
      rcases ite_or h with ⟨g_47, h⟩ | ⟨g_47, h⟩
      · refine itp g_47 ?_
        obtain ⟨y_48, e_49, h⟩ := bind_or h
        refine bnd (erasurelaw30_awake.mono _ _  _ hk e_49) ?_
        exact h
      · refine itn g_47 ?_
        rcases ite_or h with ⟨g_50, h⟩ | ⟨g_50, h⟩
        · refine itp g_50 ?_
          obtain ⟨y_51, e_52, h⟩ := bind_or h
          refine bnd (erasurelaw30_awake.mono _ _  _ hk e_52) ?_
          exact h
        · refine itn g_50 ?_
          obtain ⟨y_53, e_54, h⟩ := bind_or h
          refine bnd (cache_Lookup.mono _ _ _ _ _ _ _ _ hk e_54) ?_
          obtain ⟨y_55, e_56, h⟩ := bind_or h
          refine bnd (cache_Lookup.mono _ _ _ _ _ _ _ _ hk e_56) ?_
          rcases ite_or h with ⟨g_57, h⟩ | ⟨g_57, h⟩
          · refine itp g_57 ?_
            rcases ite_or h with ⟨g_58, h⟩ | ⟨g_58, h⟩
            · refine itp g_58 ?_
              rcases ite_or h with ⟨g_59, h⟩ | ⟨g_59, h⟩
              · refine itp g_59 ?_
                rcases ite_or h with ⟨g_60, h⟩ | ⟨g_60, h⟩
                · refine itp g_60 ?_
                  rcases ite_or h with ⟨g_61, h⟩ | ⟨g_61, h⟩
                  · refine itp g_61 ?_
                    obtain ⟨y_62, e_63, h⟩ := bind_or h
                    refine bnd (erasurelaw30_awake.mono _ _  _ hk e_63) ?_
                    exact h
                  · refine itn g_61 ?_
                    exact h
                · refine itn g_60 ?_
                  exact h
              · refine itn g_59 ?_
                exact h
            · refine itn g_58 ?_
              exact h
          · refine itn g_57 ?_
            rcases ite_or h with ⟨g_64, h⟩ | ⟨g_64, h⟩
            · refine itp g_64 ?_
              rcases ite_or h with ⟨g_65, h⟩ | ⟨g_65, h⟩
              · refine itp g_65 ?_
                rcases ite_or h with ⟨g_66, h⟩ | ⟨g_66, h⟩
                · refine itp g_66 ?_
                  rcases ite_or h with ⟨g_67, h⟩ | ⟨g_67, h⟩
                  · refine itp g_67 ?_
                    obtain ⟨y_68, e_69, h⟩ := bind_or h
                    refine bnd (erasurelaw30_awake.mono _ _  _ hk e_69) ?_
                    exact h
                  · refine itn g_67 ?_
                    exact h
                · refine itn g_66 ?_
                  exact h
              · refine itn g_65 ?_
                exact h
            · refine itn g_64 ?_
              exact h
theorem erasurelaw30_CacheServes.mono   : ∀ (k k' : Nat) (c0 : TCache) (v1 : TValue) (d2 : T32) (r : Bool), k ≤ k' → erasurelaw30_CacheServes k c0 v1 d2 = some r → erasurelaw30_CacheServes k' c0 v1 d2 = some r := by
  intro k k' c0 v1 d2 r hk h
  unfold erasurelaw30_CacheServes at h ⊢
  rcases ite_or h with ⟨g_1, h⟩ | ⟨g_1, h⟩
  · refine itp g_1 ?_
    obtain ⟨y_2, e_3, h⟩ := bind_or h
    refine bnd (erasurelaw30_awake.mono _ _  _ hk e_3) ?_
    exact h
  · refine itn g_1 ?_
    rcases ite_or h with ⟨g_4, h⟩ | ⟨g_4, h⟩
    · refine itp g_4 ?_
      obtain ⟨y_5, e_6, h⟩ := bind_or h
      refine bnd (erasurelaw30_awake.mono _ _  _ hk e_6) ?_
      exact h
    · refine itn g_4 ?_
      rcases ite_or h with ⟨g_7, h⟩ | ⟨g_7, h⟩
      · refine itp g_7 ?_
        obtain ⟨y_8, e_9, h⟩ := bind_or h
        refine bnd (erasurelaw30_awake.mono _ _  _ hk e_9) ?_
        exact h
      · refine itn g_7 ?_
        rcases ite_or h with ⟨g_10, h⟩ | ⟨g_10, h⟩
        · refine itp g_10 ?_
          obtain ⟨y_11, e_12, h⟩ := bind_or h
          refine bnd (erasurelaw30_awake.mono _ _  _ hk e_12) ?_
          exact h
        · refine itn g_10 ?_
          rcases ite_or h with ⟨g_13, h⟩ | ⟨g_13, h⟩
          · refine itp g_13 ?_
            obtain ⟨y_14, e_15, h⟩ := bind_or h
            refine bnd (erasurelaw30_awake.mono _ _  _ hk e_15) ?_
            exact h
          · refine itn g_13 ?_
            rcases ite_or h with ⟨g_16, h⟩ | ⟨g_16, h⟩
            · refine itp g_16 ?_
              obtain ⟨y_17, e_18, h⟩ := bind_or h
              refine bnd (erasurelaw30_awake.mono _ _  _ hk e_18) ?_
              exact h
            · refine itn g_16 ?_
              exact erasurelaw30_CacheServes.p1.mono _ _ _ _ _ _ _ r hk h
theorem erasurelaw30_CacheServes.spec {k : Nat} {c0 : TCache} {v1 : TValue} {d2 : T32} {r : Bool} (h : erasurelaw30_CacheServes k c0 v1 d2 = some r) : Spec Try.prog 4 [.agg ((cCache c0).map .p), .agg ((cValue v1).map .p), .agg ((c32 d2).map .p)] (.p (.bool r)) [] :=
  spec_of mix Try.func4 (body := bodyOf Try.f4) (by kernel_rfl) (by kernel_rfl) (erasurelaw30_CacheServes.run h)
end Go.Proofs.YtjhnpaenhdbhpabV
set_option linter.unusedVariables false
set_option linter.unusedSimpArgs false
set_option maxRecDepth 100000
namespace Go.Proofs.YtjhnpaenhdbhpabV
open Go Go.RowKit
noncomputable def erasureref01_Compare  (k : Nat) (a0 : TValue) (b1 : TValue) : Option Int := (erasureref01_Clean k a0).bind fun y_1 => ((erasureref01_Clean k b1).bind fun y_3 => (if ((y_1.f0 == y_3.f0) && ((y_1.f1 == y_3.f1) && ((y_1.f2.data.toList == y_3.f2.data.toList) && true))) = true then (some 0) else (if (decide (y_1.f0 < y_3.f0)) = true then (some (-1)) else (if (y_1.f0 == y_3.f0) = true then (if (decide (y_1.f1 < y_3.f1)) = true then (some (-1)) else (if (Op.bytesLess y_1.f2.data.toList y_3.f2.data.toList) = true then (some (-1)) else (some 1))) else (some 1)))))
noncomputable def erasureref01_Compare.t : List Item := [.code (bodyOf Try.f47)]
noncomputable def erasureref01_Compare.s (a0 : TValue) (b1 : TValue) : St := ⟨frOf Try.f47.ntmps 0 [(0, .agg ((cValue a0).map .p)), (1, .agg ((cValue b1).map .p))], []⟩
theorem erasureref01_Compare.run   {k : Nat} {a0 : TValue} {b1 : TValue} {r : Int} (h : erasureref01_Compare k a0 b1 = some r) : RunC Try.prog Try.f47 erasureref01_Compare.t (erasureref01_Compare.s a0 b1) (.p (.int .i64 r)) [] := by
  unfold erasureref01_Compare at h
  obtain ⟨y_1, e_2, h⟩ := bind_or h
  obtain ⟨y_3, e_4, h⟩ := bind_or h
  rcases ite_or h with ⟨g_5, h⟩ | ⟨g_5, h⟩
  · obtain rfl := Option.some.inj h
    exact RunC.out [.n 3, .r [(1, .call (.agg ((cValue y_1).map .p)) []), (3, .call (.agg ((cValue y_3).map .p)) [])], .n 2, .r [(2, .dec true)], .n 3] (by kernel_rfl) (Obs.of (by kernel_rfl) (And.intro (erasureref01_Clean.spec e_2) (And.intro (erasureref01_Clean.spec e_4) g_5)))
  · rcases ite_or h with ⟨g_6, h⟩ | ⟨g_6, h⟩
    · obtain rfl := Option.some.inj h
      exact RunC.out [.n 3, .r [(1, .call (.agg ((cValue y_1).map .p)) []), (3, .call (.agg ((cValue y_3).map .p)) [])], .n 2, .r [(2, .dec false)], .n 4, .r [(5, .dec true)], .n 3] (by kernel_rfl) (Obs.of (by kernel_rfl) (And.intro (erasureref01_Clean.spec e_2) (And.intro (erasureref01_Clean.spec e_4) (And.intro (nt g_5) g_6))))
    · rcases ite_or h with ⟨g_7, h⟩ | ⟨g_7, h⟩
      · rcases ite_or h with ⟨g_8, h⟩ | ⟨g_8, h⟩
        · obtain rfl := Option.some.inj h
          exact RunC.out [.n 3, .r [(1, .call (.agg ((cValue y_1).map .p)) []), (3, .call (.agg ((cValue y_3).map .p)) [])], .n 2, .r [(2, .dec false)], .n 4, .r [(5, .dec false), (11, .dec true), (17, .dec true)], .n 3] (by kernel_rfl) (Obs.of (by kernel_rfl) (And.intro (erasureref01_Clean.spec e_2) (And.intro (erasureref01_Clean.spec e_4) (And.intro (nt g_5) (And.intro (nt g_6) (And.intro g_7 g_8))))))
        · rcases ite_or h with ⟨g_9, h⟩ | ⟨g_9, h⟩
          · obtain rfl := Option.some.inj h
            exact RunC.out [.n 3, .r [(1, .call (.agg ((cValue y_1).map .p)) []), (3, .call (.agg ((cValue y_3).map .p)) [])], .n 2, .r [(2, .dec false)], .n 4, .r [(5, .dec false), (11, .dec true), (17, .dec false), (25, .dec true)], .n 3] (by kernel_rfl) (Obs.of (by kernel_rfl) (And.intro (erasureref01_Clean.spec e_2) (And.intro (erasureref01_Clean.spec e_4) (And.intro (nt g_5) (And.intro (nt g_6) (And.intro g_7 (And.intro (nt g_8) g_9)))))))
          · obtain rfl := Option.some.inj h
            exact RunC.out [.n 3, .r [(1, .call (.agg ((cValue y_1).map .p)) []), (3, .call (.agg ((cValue y_3).map .p)) [])], .n 2, .r [(2, .dec false)], .n 4, .r [(5, .dec false), (11, .dec true), (17, .dec false), (25, .dec false)], .n 4] (by kernel_rfl) (Obs.of (by kernel_rfl) (And.intro (erasureref01_Clean.spec e_2) (And.intro (erasureref01_Clean.spec e_4) (And.intro (nt g_5) (And.intro (nt g_6) (And.intro g_7 (And.intro (nt g_8) (nt g_9))))))))
      · obtain rfl := Option.some.inj h
        exact RunC.out [.n 3, .r [(1, .call (.agg ((cValue y_1).map .p)) []), (3, .call (.agg ((cValue y_3).map .p)) [])], .n 2, .r [(2, .dec false)], .n 4, .r [(5, .dec false), (11, .dec false)], .n 4] (by kernel_rfl) (Obs.of (by kernel_rfl) (And.intro (erasureref01_Clean.spec e_2) (And.intro (erasureref01_Clean.spec e_4) (And.intro (nt g_5) (And.intro (nt g_6) (nt g_7))))))
theorem erasureref01_Compare.mono   : ∀ (k k' : Nat) (a0 : TValue) (b1 : TValue) (r : Int), k ≤ k' → erasureref01_Compare k a0 b1 = some r → erasureref01_Compare k' a0 b1 = some r := by
  intro k k' a0 b1 r hk h
  unfold erasureref01_Compare at h ⊢
  obtain ⟨y_1, e_2, h⟩ := bind_or h
  refine bnd (erasureref01_Clean.mono _ _ _ _ hk e_2) ?_
  obtain ⟨y_3, e_4, h⟩ := bind_or h
  refine bnd (erasureref01_Clean.mono _ _ _ _ hk e_4) ?_
  rcases ite_or h with ⟨g_5, h⟩ | ⟨g_5, h⟩
  · refine itp g_5 ?_
    exact h
  · refine itn g_5 ?_
    rcases ite_or h with ⟨g_6, h⟩ | ⟨g_6, h⟩
    · refine itp g_6 ?_
      exact h
    · refine itn g_6 ?_
      rcases ite_or h with ⟨g_7, h⟩ | ⟨g_7, h⟩
      · refine itp g_7 ?_
        rcases ite_or h with ⟨g_8, h⟩ | ⟨g_8, h⟩
        · refine itp g_8 ?_
          exact h
        · refine itn g_8 ?_
          rcases ite_or h with ⟨g_9, h⟩ | ⟨g_9, h⟩
          · refine itp g_9 ?_
            exact h
          · refine itn g_9 ?_
            exact h
      · refine itn g_7 ?_
        exact h
theorem erasureref01_Compare.spec {k : Nat} {a0 : TValue} {b1 : TValue} {r : Int} (h : erasureref01_Compare k a0 b1 = some r) : Spec Try.prog 47 [.agg ((cValue a0).map .p), .agg ((cValue b1).map .p)] (.p (.int .i64 r)) [] :=
  spec_of mix Try.func47 (body := bodyOf Try.f47) (by kernel_rfl) (by kernel_rfl) (erasureref01_Compare.run h)
end Go.Proofs.YtjhnpaenhdbhpabV
set_option linter.unusedVariables false
set_option linter.unusedSimpArgs false
set_option maxRecDepth 100000
namespace Go.Proofs.YtjhnpaenhdbhpabV
open Go Go.RowKit
noncomputable def erasureref01_ValidRow.p1  : Nat → (List TValue) → Int → Option Bool
  | 0, _, _ => none
  | k + 1, r0, i3 => if (decide (i3 < ((r0).length : Int))) = true then (if 0 ≤ i3 ∧ i3 < ((r0).length : Int) then ((erasureref01_Valid k (r0.getD i3.toNat dValue)).bind fun y_4 => (if (!y_4) = true then (some false) else (erasureref01_ValidRow.p1 k r0 (IntKind.i64.wrap (i3 + 1))))) else none) else (some true)
noncomputable def erasureref01_ValidRow  (k : Nat) (r0 : (List TValue)) : Option Bool := if (decide (((r0).length : Int) > 16)) = true then (some false) else (erasureref01_ValidRow.p1 k r0 0)
noncomputable def erasureref01_ValidRow.t : List Item := [.code (bodyOf Try.f55)]
noncomputable def erasureref01_ValidRow.s (r0 : (List TValue)) : St := ⟨frOf Try.f55.ntmps 0 [(0, .p (eL 3 cValue dValue r0))], []⟩
noncomputable def erasureref01_ValidRow.p1.t : List Item := nav 12 [false] erasureref01_ValidRow.t
noncomputable def erasureref01_ValidRow.p1.s (r0 : (List TValue)) (i3 : Int) : St := ⟨frOf Try.f55.ntmps 0 [(0, .p (eL 3 cValue dValue r0)), (3, .p (.int .i64 i3))], []⟩
theorem erasureref01_ValidRow.p1.run   : ∀ (k : Nat) (r0 : (List TValue)) (i3 : Int) (r : Bool), erasureref01_ValidRow.p1 k r0 i3 = some r → RunC Try.prog Try.f55 erasureref01_ValidRow.p1.t (erasureref01_ValidRow.p1.s r0 i3) (.p (.bool r)) [] := by
  intro k
  induction k with
  | zero => intro r0 i3 r h; simp [erasureref01_ValidRow.p1] at h
  | succ k ih =>
    intro r0 i3 r h
    rw [erasureref01_ValidRow.p1] at h
    rcases ite_or h with ⟨g_2, h⟩ | ⟨g_2, h⟩
    · obtain ⟨g_3, h⟩ := ite_some h
      obtain ⟨y_4, e_5, h⟩ := bind_or h
      rcases ite_or h with ⟨g_6, h⟩ | ⟨g_6, h⟩
      · obtain rfl := Option.some.inj h
        exact RunC.out [.n 2, .r [(3, .dec true)], .n 5, .r [(4, .call (.p (.bool y_4)) []), (5, .dec true)], .n 3] (by kernel_rfl) (Obs.of (by kernel_rfl) (And.intro g_2 (And.intro g_3 (And.intro (erasureref01_Valid.spec e_5) g_6))))
      · exact RunC.go [.n 2, .r [(3, .dec true)], .n 5, .r [(4, .call (.p (.bool y_4)) []), (5, .dec false)], .n 5, .k [0, 3]] (by kernel_rfl) (Obs.of (by kernel_rfl) (And.intro g_2 (And.intro g_3 (And.intro (erasureref01_Valid.spec e_5) (nt g_6))))) (ih _ _ r h)
    · obtain rfl := Option.some.inj h
      exact RunC.out [.n 2, .r [(3, .dec false)], .n 4] (by kernel_rfl) (Obs.of (by kernel_rfl) (nt g_2))
theorem erasureref01_ValidRow.run   {k : Nat} {r0 : (List TValue)} {r : Bool} (h : erasureref01_ValidRow k r0 = some r) : RunC Try.prog Try.f55 erasureref01_ValidRow.t (erasureref01_ValidRow.s r0) (.p (.bool r)) [] := by
  unfold erasureref01_ValidRow at h
  rcases ite_or h with ⟨g_1, h⟩ | ⟨g_1, h⟩
  · obtain rfl := Option.some.inj h
    exact RunC.out [.n 4, .r [(2, .dec true)], .n 3] (by kernel_rfl) (Obs.of (by kernel_rfl) g_1)
  · exact RunC.go [.n 4, .r [(2, .dec false)], .n 7, .k [0, 3]] (by kernel_rfl) (Obs.of (by kernel_rfl) (nt g_1)) (erasureref01_ValidRow.p1.run k _ _ r h)
theorem erasureref01_ValidRow.p1.mono   : ∀ (k k' : Nat) (r0 : (List TValue)) (i3 : Int) (r : Bool), k ≤ k' → erasureref01_ValidRow.p1 k r0 i3 = some r → erasureref01_ValidRow.p1 k' r0 i3 = some r := by
  intro k
  induction k with
  | zero => intro k' r0 i3 r hk h; simp [erasureref01_ValidRow.p1] at h
  | succ k ih =>
    intro k' r0 i3 r hk h
    obtain ⟨k', rfl⟩ : ∃ m, k' = m + 1 := ⟨k' - 1, by omega⟩
    replace hk := Nat.le_of_succ_le_succ hk
    rw [erasureref01_ValidRow.p1] at h ⊢
    rcases ite_or h with ⟨g_2, h⟩ | ⟨g_2, h⟩
    · refine itp g_2 ?_
      obtain ⟨g_3, h⟩ := ite_some h
      refine itp g_3 ?_
      obtain ⟨y_4, e_5, h⟩ := bind_or h
      refine bnd (erasureref01_Valid.mono _ _ _ _ hk e_5) ?_
      rcases ite_or h with ⟨g_6, h⟩ | ⟨g_6, h⟩
      · refine itp g_6 ?_
        exact h
      · refine itn g_6 ?_
        exact ih _ _ _ r hk h
    · refine itn g_2 ?_
      exact h
theorem erasureref01_ValidRow.mono   : ∀ (k k' : Nat) (r0 : (List TValue)) (r : Bool), k ≤ k' → erasureref01_ValidRow k r0 = some r → erasureref01_ValidRow k' r0 = some r := by
  intro k k' r0 r hk h
  unfold erasureref01_ValidRow at h ⊢
  rcases ite_or h with ⟨g_1, h⟩ | ⟨g_1, h⟩
  · refine itp g_1 ?_
    exact h
  · refine itn g_1 ?_
    exact erasureref01_ValidRow.p1.mono _ _ _ _ r hk h
theorem erasureref01_ValidRow.spec {k : Nat} {r0 : (List TValue)} {r : Bool} (h : erasureref01_ValidRow k r0 = some r) : Spec Try.prog 55 [.p (eL 3 cValue dValue r0)] (.p (.bool r)) [] :=
  spec_of mix Try.func55 (body := bodyOf Try.f55) (by kernel_rfl) (by kernel_rfl) (erasureref01_ValidRow.run h)
end Go.Proofs.YtjhnpaenhdbhpabV
set_option linter.unusedVariables false
set_option linter.unusedSimpArgs false
set_option maxRecDepth 100000
namespace Go.Proofs.YtjhnpaenhdbhpabV
open Go Go.RowKit
noncomputable def erasureref06_countOK  (k : Nat) (n0 : Int) : Option Bool := if (decide (n0 ≥ (-262144))) = true then (some (decide (n0 ≤ 262144))) else (some false)
noncomputable def erasureref06_countOK.t : List Item := [.code (bodyOf Try.f56)]
noncomputable def erasureref06_countOK.s (n0 : Int) : St := ⟨frOf Try.f56.ntmps 0 [(0, .p (.int .i64 n0))], []⟩
theorem erasureref06_countOK.run   {k : Nat} {n0 : Int} {r : Bool} (h : erasureref06_countOK k n0 = some r) : RunC Try.prog Try.f56 erasureref06_countOK.t (erasureref06_countOK.s n0) (.p (.bool r)) [] := by
  unfold erasureref06_countOK at h
  rcases ite_or h with ⟨g_1, h⟩ | ⟨g_1, h⟩
  · obtain rfl := Option.some.inj h
    exact RunC.out [.n 3, .r [(2, .dec true)]] (by kernel_rfl) (Obs.of (by kernel_rfl) g_1)
  · obtain rfl := Option.some.inj h
    exact RunC.out [.n 3, .r [(2, .dec false)]] (by kernel_rfl) (Obs.of (by kernel_rfl) (nt g_1))
theorem erasureref06_countOK.mono   : ∀ (k k' : Nat) (n0 : Int) (r : Bool), k ≤ k' → erasureref06_countOK k n0 = some r → erasureref06_countOK k' n0 = some r := by
  intro k k' n0 r hk h
  unfold erasureref06_countOK at h ⊢
  rcases ite_or h with ⟨g_1, h⟩ | ⟨g_1, h⟩
  · refine itp g_1 ?_
    exact h
  · refine itn g_1 ?_
    exact h
theorem erasureref06_countOK.spec {k : Nat} {n0 : Int} {r : Bool} (h : erasureref06_countOK k n0 = some r) : Spec Try.prog 56 [.p (.int .i64 n0)] (.p (.bool r)) [] :=
  spec_of mix Try.func56 (body := bodyOf Try.f56) (by kernel_rfl) (by kernel_rfl) (erasureref06_countOK.run h)
end Go.Proofs.YtjhnpaenhdbhpabV
set_option linter.unusedVariables false
set_option linter.unusedSimpArgs false
set_option maxRecDepth 100000
namespace Go.Proofs.YtjhnpaenhdbhpabV
open Go Go.RowKit
noncomputable def erasureref01_CompareRows.p1  : Nat → (List TValue) → (List TValue) → Int → Option Int
  | 0, _, _, _ => none
  | k + 1, a0, b1, i5 => if (decide (i5 < ((a0).length : Int))) = true then (if (decide (i5 < ((b1).length : Int))) = true then (if 0 ≤ i5 ∧ i5 < ((a0).length : Int) then (if 0 ≤ i5 ∧ i5 < ((b1).length : Int) then ((erasureref01_Compare k (a0.getD i5.toNat dValue) (b1.getD i5.toNat dValue)).bind fun y_5 => (if (y_5 != 0) = true then (some y_5) else (erasureref01_CompareRows.p1 k a0 b1 (IntKind.i64.wrap (i5 + 1))))) else none) else none) else (if (decide (((a0).length : Int) < ((b1).length : Int))) = true then (some (-1)) else (if (decide (((a0).length : Int) > ((b1).length : Int))) = true then (some 1) else (some 0)))) else (if (decide (((a0).length : Int) < ((b1).length : Int))) = true then (some (-1)) else (if (decide (((a0).length : Int) > ((b1).length : Int))) = true then (some 1) else (some 0)))
noncomputable def erasureref01_CompareRows  (k : Nat) (a0 : (List TValue)) (b1 : (List TValue)) : Option Int := erasureref01_CompareRows.p1 k a0 b1 0
noncomputable def erasureref01_CompareRows.t : List Item := [.code (bodyOf Try.f62)]
noncomputable def erasureref01_CompareRows.s (a0 : (List TValue)) (b1 : (List TValue)) : St := ⟨frOf Try.f62.ntmps 0 [(0, .p (eL 3 cValue dValue a0)), (1, .p (eL 3 cValue dValue b1))], []⟩
noncomputable def erasureref01_CompareRows.p1.t : List Item := nav 7 [] erasureref01_CompareRows.t
noncomputable def erasureref01_CompareRows.p1.s (a0 : (List TValue)) (b1 : (List TValue)) (i5 : Int) : St := ⟨frOf Try.f62.ntmps 0 [(0, .p (eL 3 cValue dValue a0)), (1, .p (eL 3 cValue dValue b1)), (5, .p (.int .i64 i5))], []⟩
theorem erasureref01_CompareRows.p1.run   : ∀ (k : Nat) (a0 : (List TValue)) (b1 : (List TValue)) (i5 : Int) (r : Int), erasureref01_CompareRows.p1 k a0 b1 i5 = some r → RunC Try.prog Try.f62 erasureref01_CompareRows.p1.t (erasureref01_CompareRows.p1.s a0 b1 i5) (.p (.int .i64 r)) [] := by
  intro k
  induction k with
  | zero => intro a0 b1 i5 r h; simp [erasureref01_CompareRows.p1] at h
  | succ k ih =>
    intro a0 b1 i5 r h
    rw [erasureref01_CompareRows.p1] at h
    rcases ite_or h with ⟨g_1, h⟩ | ⟨g_1, h⟩
    · rcases ite_or h with ⟨g_2, h⟩ | ⟨g_2, h⟩
      · obtain ⟨g_3, h⟩ := ite_some h
        obtain ⟨g_4, h⟩ := ite_some h
        obtain ⟨y_5, e_6, h⟩ := bind_or h
        rcases ite_or h with ⟨g_7, h⟩ | ⟨g_7, h⟩
        · obtain rfl := Option.some.inj h
          exact RunC.out [.n 2, .r [(4, .dec true), (9, .dec true)], .n 5, .r [(8, .call (.p (.int .i64 y_5)) [])], .n 1, .r [(1, .dec true)], .n 3] (by kernel_rfl) (Obs.of (by kernel_rfl) (And.intro g_1 (And.intro g_2 (And.intro g_3 (And.intro g_4 (And.intro (erasureref01_Compare.spec e_6) g_7))))))
        · exact RunC.go [.n 2, .r [(4, .dec true), (9, .dec true)], .n 5, .r [(8, .call (.p (.int .i64 y_5)) [])], .n 1, .r [(1, .dec false)], .n 5, .k [0, 1, 5]] (by kernel_rfl) (Obs.of (by kernel_rfl) (And.intro g_1 (And.intro g_2 (And.intro g_3 (And.intro g_4 (And.intro (erasureref01_Compare.spec e_6) (nt g_7))))))) (ih _ _ _ r h)
      · rcases ite_or h with ⟨g_8, h⟩ | ⟨g_8, h⟩
        · obtain rfl := Option.some.inj h
          exact RunC.out [.n 2, .r [(4, .dec true), (9, .dec false)], .n 5, .r [(5, .dec true)], .n 3] (by kernel_rfl) (Obs.of (by kernel_rfl) (And.intro g_1 (And.intro (nt g_2) g_8)))
        · rcases ite_or h with ⟨g_9, h⟩ | ⟨g_9, h⟩
          · obtain rfl := Option.some.inj h
            exact RunC.out [.n 2, .r [(4, .dec true), (9, .dec false)], .n 5, .r [(5, .dec false)], .n 2, .r [(5, .dec true)], .n 3] (by kernel_rfl) (Obs.of (by kernel_rfl) (And.intro g_1 (And.intro (nt g_2) (And.intro (nt g_8) g_9))))
          · obtain rfl := Option.some.inj h
            exact RunC.out [.n 2, .r [(4, .dec true), (9, .dec false)], .n 5, .r [(5, .dec false)], .n 2, .r [(5, .dec false)], .n 5] (by kernel_rfl) (Obs.of (by kernel_rfl) (And.intro g_1 (And.intro (nt g_2) (And.intro (nt g_8) (nt g_9)))))
    · rcases ite_or h with ⟨g_10, h⟩ | ⟨g_10, h⟩
      · obtain rfl := Option.some.inj h
        exact RunC.out [.n 2, .r [(4, .dec false)], .n 5, .r [(5, .dec true)], .n 3] (by kernel_rfl) (Obs.of (by kernel_rfl) (And.intro (nt g_1) g_10))
      · rcases ite_or h with ⟨g_11, h⟩ | ⟨g_11, h⟩
        · obtain rfl := Option.some.inj h
          exact RunC.out [.n 2, .r [(4, .dec false)], .n 5, .r [(5, .dec false)], .n 2, .r [(5, .dec true)], .n 3] (by kernel_rfl) (Obs.of (by kernel_rfl) (And.intro (nt g_1) (And.intro (nt g_10) g_11)))
        · obtain rfl := Option.some.inj h
          exact RunC.out [.n 2, .r [(4, .dec false)], .n 5, .r [(5, .dec false)], .n 2, .r [(5, .dec false)], .n 5] (by kernel_rfl) (Obs.of (by kernel_rfl) (And.intro (nt g_1) (And.intro (nt g_10) (nt g_11))))
theorem erasureref01_CompareRows.run   {k : Nat} {a0 : (List TValue)} {b1 : (List TValue)} {r : Int} (h : erasureref01_CompareRows k a0 b1 = some r) : RunC Try.prog Try.f62 erasureref01_CompareRows.t (erasureref01_CompareRows.s a0 b1) (.p (.int .i64 r)) [] := by
  unfold erasureref01_CompareRows at h
  exact RunC.go [.n 7, .k [0, 1, 5]] (by kernel_rfl) (Obs.tt (by kernel_rfl)) (erasureref01_CompareRows.p1.run k _ _ _ r h)
theorem erasureref01_CompareRows.p1.mono   : ∀ (k k' : Nat) (a0 : (List TValue)) (b1 : (List TValue)) (i5 : Int) (r : Int), k ≤ k' → erasureref01_CompareRows.p1 k a0 b1 i5 = some r → erasureref01_CompareRows.p1 k' a0 b1 i5 = some r := by
  intro k
  induction k with
  | zero => intro k' a0 b1 i5 r hk h; simp [erasureref01_CompareRows.p1] at h
  | succ k ih =>
    intro k' a0 b1 i5 r hk h
    obtain ⟨k', rfl⟩ : ∃ m, k' = m + 1 := ⟨k' - 1, by omega⟩
    replace hk := Nat.le_of_succ_le_succ hk
    rw [erasureref01_CompareRows.p1] at h ⊢
    rcases ite_or h with ⟨g_1, h⟩ | ⟨g_1, h⟩
    · refine itp g_1 ?_
      rcases ite_or h with ⟨g_2, h⟩ | ⟨g_2, h⟩
      · refine itp g_2 ?_
        obtain ⟨g_3, h⟩ := ite_some h
        refine itp g_3 ?_
        obtain ⟨g_4, h⟩ := ite_some h
        refine itp g_4 ?_
        obtain ⟨y_5, e_6, h⟩ := bind_or h
        refine bnd (erasureref01_Compare.mono _ _ _ _ _ hk e_6) ?_
        rcases ite_or h with ⟨g_7, h⟩ | ⟨g_7, h⟩
        · refine itp g_7 ?_
          exact h
        · refine itn g_7 ?_
          exact ih _ _ _ _ r hk h
      · refine itn g_2 ?_
        rcases ite_or h with ⟨g_8, h⟩ | ⟨g_8, h⟩
        · refine itp g_8 ?_
          exact h
        · refine itn g_8 ?_
          rcases ite_or h with ⟨g_9, h⟩ | ⟨g_9, h⟩
          · refine itp g_9 ?_
            exact h
          · refine itn g_9 ?_
            exact h
    · refine itn g_1 ?_
      rcases ite_or h with ⟨g_10, h⟩ | ⟨g_10, h⟩
      · refine itp g_10 ?_
        exact h
      · refine itn g_10 ?_
        rcases ite_or h with ⟨g_11, h⟩ | ⟨g_11, h⟩
        · refine itp g_11 ?_
          exact h
        · refine itn g_11 ?_
          exact h
theorem erasureref01_CompareRows.mono   : ∀ (k k' : Nat) (a0 : (List TValue)) (b1 : (List TValue)) (r : Int), k ≤ k' → erasureref01_CompareRows k a0 b1 = some r → erasureref01_CompareRows k' a0 b1 = some r := by
  intro k k' a0 b1 r hk h
  unfold erasureref01_CompareRows at h ⊢
  exact erasureref01_CompareRows.p1.mono _ _ _ _ _ r hk h
theorem erasureref01_CompareRows.spec {k : Nat} {a0 : (List TValue)} {b1 : (List TValue)} {r : Int} (h : erasureref01_CompareRows k a0 b1 = some r) : Spec Try.prog 62 [.p (eL 3 cValue dValue a0), .p (eL 3 cValue dValue b1)] (.p (.int .i64 r)) [] :=
  spec_of mix Try.func62 (body := bodyOf Try.f62) (by kernel_rfl) (by kernel_rfl) (erasureref01_CompareRows.run h)
end Go.Proofs.YtjhnpaenhdbhpabV
set_option linter.unusedVariables false
set_option linter.unusedSimpArgs false
set_option maxRecDepth 100000
namespace Go.Proofs.YtjhnpaenhdbhpabV
open Go Go.RowKit
noncomputable def erasureref06_Valid.p1  : Nat → (List TEntry) → Int → Option Bool
  | 0, _, _ => none
  | k + 1, b0, i3 => if (decide (i3 < ((b0).length : Int))) = true then (if 0 ≤ i3 ∧ i3 < ((b0).length : Int) then ((erasureref01_ValidRow k ((b0.getD i3.toNat dEntry).f0)).bind fun y_4 => (if (!y_4) = true then (some false) else ((erasureref06_countOK k ((b0.getD i3.toNat dEntry).f1)).bind fun y_7 => (if (!y_7) = true then (some false) else (if ((b0.getD i3.toNat dEntry).f1 == 0) = true then (some false) else (if (decide (i3 > 0)) = true then (if 0 ≤ (IntKind.i64.wrap (i3 - 1)) ∧ (IntKind.i64.wrap (i3 - 1)) < ((b0).length : Int) then ((erasureref01_CompareRows k ((b0.getD (IntKind.i64.wrap (i3 - 1)).toNat dEntry).f0) ((b0.getD i3.toNat dEntry).f0)).bind fun y_13 => (if (decide (y_13 ≥ 0)) = true then (some false) else (erasureref06_Valid.p1 k b0 (IntKind.i64.wrap (i3 + 1))))) else none) else (erasureref06_Valid.p1 k b0 (IntKind.i64.wrap (i3 + 1))))))))) else none) else (some true)
noncomputable def erasureref06_Valid  (k : Nat) (b0 : (List TEntry)) : Option Bool := if (decide (((b0).length : Int) > 4096)) = true then (some false) else (erasureref06_Valid.p1 k b0 0)
noncomputable def erasureref06_Valid.t : List Item := [.code (bodyOf Try.f44)]
noncomputable def erasureref06_Valid.s (b0 : (List TEntry)) : St := ⟨frOf Try.f44.ntmps 0 [(0, .p (eL 2 cEntry dEntry b0))], []⟩
noncomputable def erasureref06_Valid.p1.t : List Item := nav 12 [false] erasureref06_Valid.t
noncomputable def erasureref06_Valid.p1.s (b0 : (List TEntry)) (i3 : Int) : St := ⟨frOf Try.f44.ntmps 0 [(0, .p (eL 2 cEntry dEntry b0)), (3, .p (.int .i64 i3))], []⟩
theorem erasureref06_Valid.p1.run   : ∀ (k : Nat) (b0 : (List TEntry)) (i3 : Int) (r : Bool), erasureref06_Valid.p1 k b0 i3 = some r → RunC Try.prog Try.f44 erasureref06_Valid.p1.t (erasureref06_Valid.p1.s b0 i3) (.p (.bool r)) [] := by
  intro k
  induction k with
  | zero => intro b0 i3 r h; simp [erasureref06_Valid.p1] at h
  | succ k ih =>
    intro b0 i3 r h
    rw [erasureref06_Valid.p1] at h
    rcases ite_or h with ⟨g_2, h⟩ | ⟨g_2, h⟩
    · obtain ⟨g_3, h⟩ := ite_some h
      obtain ⟨y_4, e_5, h⟩ := bind_or h
      rcases ite_or h with ⟨g_6, h⟩ | ⟨g_6, h⟩
      · obtain rfl := Option.some.inj h
        exact RunC.out [.n 2, .r [(3, .dec true)], .n 5, .r [(5, .call (.p (.bool y_4)) []), (7, .dec true)], .n 3] (by kernel_rfl) (Obs.of (by kernel_rfl) (And.intro g_2 (And.intro g_3 (And.intro (erasureref01_ValidRow.spec e_5) g_6))))
      · obtain ⟨y_7, e_8, h⟩ := bind_or h
        rcases ite_or h with ⟨g_9, h⟩ | ⟨g_9, h⟩
        · obtain rfl := Option.some.inj h
          exact RunC.out [.n 2, .r [(3, .dec true)], .n 5, .r [(5, .call (.p (.bool y_4)) []), (7, .dec false), (13, .call (.p (.bool y_7)) []), (16, .dec true)], .n 3] (by kernel_rfl) (Obs.of (by kernel_rfl) (And.intro g_2 (And.intro g_3 (And.intro (erasureref01_ValidRow.spec e_5) (And.intro (nt g_6) (And.intro g_3 (And.intro (erasureref06_countOK.spec e_8) g_9)))))))
        · rcases ite_or h with ⟨g_10, h⟩ | ⟨g_10, h⟩
          · obtain rfl := Option.some.inj h
            exact RunC.out [.n 2, .r [(3, .dec true)], .n 5, .r [(5, .call (.p (.bool y_4)) []), (7, .dec false), (13, .call (.p (.bool y_7)) []), (16, .dec false), (24, .dec true)], .n 3] (by kernel_rfl) (Obs.of (by kernel_rfl) (And.intro g_2 (And.intro g_3 (And.intro (erasureref01_ValidRow.spec e_5) (And.intro (nt g_6) (And.intro g_3 (And.intro (erasureref06_countOK.spec e_8) (And.intro (nt g_9) (And.intro g_3 g_10)))))))))
          · rcases ite_or h with ⟨g_11, h⟩ | ⟨g_11, h⟩
            · obtain ⟨g_12, h⟩ := ite_some h
              obtain ⟨y_13, e_14, h⟩ := bind_or h
              rcases ite_or h with ⟨g_15, h⟩ | ⟨g_15, h⟩
              · obtain rfl := Option.some.inj h
                exact RunC.out [.n 2, .r [(3, .dec true)], .n 5, .r [(5, .call (.p (.bool y_4)) []), (7, .dec false), (13, .call (.p (.bool y_7)) []), (16, .dec false), (24, .dec false), (27, .dec true), (39, .call (.p (.int .i64 y_13)) []), (42, .dec true)], .n 3] (by kernel_rfl) (Obs.of (by kernel_rfl) (And.intro g_2 (And.intro g_3 (And.intro (erasureref01_ValidRow.spec e_5) (And.intro (nt g_6) (And.intro g_3 (And.intro (erasureref06_countOK.spec e_8) (And.intro (nt g_9) (And.intro g_3 (And.intro (nt g_10) (And.intro g_11 (And.intro g_12 (And.intro g_3 (And.intro (erasureref01_CompareRows.spec e_14) g_15))))))))))))))
              · exact RunC.go [.n 2, .r [(3, .dec true)], .n 5, .r [(5, .call (.p (.bool y_4)) []), (7, .dec false), (13, .call (.p (.bool y_7)) []), (16, .dec false), (24, .dec false), (27, .dec true), (39, .call (.p (.int .i64 y_13)) []), (42, .dec false)], .n 5, .k [0, 3]] (by kernel_rfl) (Obs.of (by kernel_rfl) (And.intro g_2 (And.intro g_3 (And.intro (erasureref01_ValidRow.spec e_5) (And.intro (nt g_6) (And.intro g_3 (And.intro (erasureref06_countOK.spec e_8) (And.intro (nt g_9) (And.intro g_3 (And.intro (nt g_10) (And.intro g_11 (And.intro g_12 (And.intro g_3 (And.intro (erasureref01_CompareRows.spec e_14) (nt g_15))))))))))))))) (ih _ _ r h)
            · exact RunC.go [.n 2, .r [(3, .dec true)], .n 5, .r [(5, .call (.p (.bool y_4)) []), (7, .dec false), (13, .call (.p (.bool y_7)) []), (16, .dec false), (24, .dec false), (27, .dec false)], .n 5, .k [0, 3]] (by kernel_rfl) (Obs.of (by kernel_rfl) (And.intro g_2 (And.intro g_3 (And.intro (erasureref01_ValidRow.spec e_5) (And.intro (nt g_6) (And.intro g_3 (And.intro (erasureref06_countOK.spec e_8) (And.intro (nt g_9) (And.intro g_3 (And.intro (nt g_10) (nt g_11))))))))))) (ih _ _ r h)
    · obtain rfl := Option.some.inj h
      exact RunC.out [.n 2, .r [(3, .dec false)], .n 4] (by kernel_rfl) (Obs.of (by kernel_rfl) (nt g_2))
theorem erasureref06_Valid.run   {k : Nat} {b0 : (List TEntry)} {r : Bool} (h : erasureref06_Valid k b0 = some r) : RunC Try.prog Try.f44 erasureref06_Valid.t (erasureref06_Valid.s b0) (.p (.bool r)) [] := by
  unfold erasureref06_Valid at h
  rcases ite_or h with ⟨g_1, h⟩ | ⟨g_1, h⟩
  · obtain rfl := Option.some.inj h
    exact RunC.out [.n 4, .r [(2, .dec true)], .n 3] (by kernel_rfl) (Obs.of (by kernel_rfl) g_1)
  · exact RunC.go [.n 4, .r [(2, .dec false)], .n 7, .k [0, 3]] (by kernel_rfl) (Obs.of (by kernel_rfl) (nt g_1)) (erasureref06_Valid.p1.run k _ _ r h)
theorem erasureref06_Valid.p1.mono   : ∀ (k k' : Nat) (b0 : (List TEntry)) (i3 : Int) (r : Bool), k ≤ k' → erasureref06_Valid.p1 k b0 i3 = some r → erasureref06_Valid.p1 k' b0 i3 = some r := by
  intro k
  induction k with
  | zero => intro k' b0 i3 r hk h; simp [erasureref06_Valid.p1] at h
  | succ k ih =>
    intro k' b0 i3 r hk h
    obtain ⟨k', rfl⟩ : ∃ m, k' = m + 1 := ⟨k' - 1, by omega⟩
    replace hk := Nat.le_of_succ_le_succ hk
    rw [erasureref06_Valid.p1] at h ⊢
    rcases ite_or h with ⟨g_2, h⟩ | ⟨g_2, h⟩
    · refine itp g_2 ?_
      obtain ⟨g_3, h⟩ := ite_some h
      refine itp g_3 ?_
      obtain ⟨y_4, e_5, h⟩ := bind_or h
      refine bnd (erasureref01_ValidRow.mono _ _ _ _ hk e_5) ?_
      rcases ite_or h with ⟨g_6, h⟩ | ⟨g_6, h⟩
      · refine itp g_6 ?_
        exact h
      · refine itn g_6 ?_
        obtain ⟨y_7, e_8, h⟩ := bind_or h
        refine bnd (erasureref06_countOK.mono _ _ _ _ hk e_8) ?_
        rcases ite_or h with ⟨g_9, h⟩ | ⟨g_9, h⟩
        · refine itp g_9 ?_
          exact h
        · refine itn g_9 ?_
          rcases ite_or h with ⟨g_10, h⟩ | ⟨g_10, h⟩
          · refine itp g_10 ?_
            exact h
          · refine itn g_10 ?_
            rcases ite_or h with ⟨g_11, h⟩ | ⟨g_11, h⟩
            · refine itp g_11 ?_
              obtain ⟨g_12, h⟩ := ite_some h
              refine itp g_12 ?_
              obtain ⟨y_13, e_14, h⟩ := bind_or h
              refine bnd (erasureref01_CompareRows.mono _ _ _ _ _ hk e_14) ?_
              rcases ite_or h with ⟨g_15, h⟩ | ⟨g_15, h⟩
              · refine itp g_15 ?_
                exact h
              · refine itn g_15 ?_
                exact ih _ _ _ r hk h
            · refine itn g_11 ?_
              exact ih _ _ _ r hk h
    · refine itn g_2 ?_
      exact h
theorem erasureref06_Valid.mono   : ∀ (k k' : Nat) (b0 : (List TEntry)) (r : Bool), k ≤ k' → erasureref06_Valid k b0 = some r → erasureref06_Valid k' b0 = some r := by
  intro k k' b0 r hk h
  unfold erasureref06_Valid at h ⊢
  rcases ite_or h with ⟨g_1, h⟩ | ⟨g_1, h⟩
  · refine itp g_1 ?_
    exact h
  · refine itn g_1 ?_
    exact erasureref06_Valid.p1.mono _ _ _ _ r hk h
theorem erasureref06_Valid.spec {k : Nat} {b0 : (List TEntry)} {r : Bool} (h : erasureref06_Valid k b0 = some r) : Spec Try.prog 44 [.p (eL 2 cEntry dEntry b0)] (.p (.bool r)) [] :=
  spec_of mix Try.func44 (body := bodyOf Try.f44) (by kernel_rfl) (by kernel_rfl) (erasureref06_Valid.run h)
end Go.Proofs.YtjhnpaenhdbhpabV
set_option linter.unusedVariables false
set_option linter.unusedSimpArgs false
set_option maxRecDepth 100000
namespace Go.Proofs.YtjhnpaenhdbhpabV
open Go Go.RowKit
noncomputable def erasureref30_Valid.p1  : Nat → (List TCached) → Int → Option Bool
  | 0, _, _ => none
  | k + 1, s0, i3 => if (decide (i3 < ((s0).length : Int))) = true then (if 0 ≤ i3 ∧ i3 < ((s0).length : Int) then ((erasureref01_Valid k ((s0.getD i3.toNat dCached).f0)).bind fun y_3 => (if (!y_3) = true then (some false) else (if (decide (i3 > 0)) = true then (if 0 ≤ (IntKind.i64.wrap (i3 - 1)) ∧ (IntKind.i64.wrap (i3 - 1)) < ((s0).length : Int) then ((erasureref01_Compare k ((s0.getD (IntKind.i64.wrap (i3 - 1)).toNat dCached).f0) ((s0.getD i3.toNat dCached).f0)).bind fun y_8 => (if (decide (y_8 ≥ 0)) = true then (some false) else ((erasureref06_Valid k ((s0.getD i3.toNat dCached).f1)).bind fun y_11 => (if (!y_11) = true then (some false) else (if (decide ((s0.getD i3.toNat dCached).f2 < 0)) = true then (some false) else (if (decide ((s0.getD i3.toNat dCached).f2 > 1048576)) = true then (some false) else (erasureref30_Valid.p1 k s0 (IntKind.i64.wrap (i3 + 1))))))))) else none) else ((erasureref06_Valid k ((s0.getD i3.toNat dCached).f1)).bind fun y_16 => (if (!y_16) = true then (some false) else (if (decide ((s0.getD i3.toNat dCached).f2 < 0)) = true then (some false) else (if (decide ((s0.getD i3.toNat dCached).f2 > 1048576)) = true then (some false) else (erasureref30_Valid.p1 k s0 (IntKind.i64.wrap (i3 + 1)))))))))) else none) else (some (decide (((s0).length : Int) ≤ 16)))
noncomputable def erasureref30_Valid  (k : Nat) (s0 : (List TCached)) : Option Bool := erasureref30_Valid.p1 k s0 0
noncomputable def erasureref30_Valid.t : List Item := [.code (bodyOf Try.f31)]
noncomputable def erasureref30_Valid.s (s0 : (List TCached)) : St := ⟨frOf Try.f31.ntmps 0 [(0, .p (eL 5 cCached dCached s0))], []⟩
noncomputable def erasureref30_Valid.p1.t : List Item := nav 7 [] erasureref30_Valid.t
noncomputable def erasureref30_Valid.p1.s (s0 : (List TCached)) (i3 : Int) : St := ⟨frOf Try.f31.ntmps 0 [(0, .p (eL 5 cCached dCached s0)), (3, .p (.int .i64 i3))], []⟩
theorem erasureref30_Valid.p1.run   : ∀ (k : Nat) (s0 : (List TCached)) (i3 : Int) (r : Bool), erasureref30_Valid.p1 k s0 i3 = some r → RunC Try.prog Try.f31 erasureref30_Valid.p1.t (erasureref30_Valid.p1.s s0 i3) (.p (.bool r)) [] := by
  intro k
  induction k with
  | zero => intro s0 i3 r h; simp [erasureref30_Valid.p1] at h
  | succ k ih =>
    intro s0 i3 r h
    rw [erasureref30_Valid.p1] at h
    rcases ite_or h with ⟨g_1, h⟩ | ⟨g_1, h⟩
    · obtain ⟨g_2, h⟩ := ite_some h
      obtain ⟨y_3, e_4, h⟩ := bind_or h
      rcases ite_or h with ⟨g_5, h⟩ | ⟨g_5, h⟩
      · obtain rfl := Option.some.inj h
        exact RunC.out [.n 2, .r [(3, .dec true)], .n 5, .r [(5, .call (.p (.bool y_3)) []), (7, .dec true)], .n 3] (by kernel_rfl) (Obs.of (by kernel_rfl) (And.intro g_1 (And.intro g_2 (And.intro (erasureref01_Valid.spec e_4) g_5))))
      · rcases ite_or h with ⟨g_6, h⟩ | ⟨g_6, h⟩
        · obtain ⟨g_7, h⟩ := ite_some h
          obtain ⟨y_8, e_9, h⟩ := bind_or h
          rcases ite_or h with ⟨g_10, h⟩ | ⟨g_10, h⟩
          · obtain rfl := Option.some.inj h
            exact RunC.out [.n 2, .r [(3, .dec true)], .n 5, .r [(5, .call (.p (.bool y_3)) []), (7, .dec false), (10, .dec true), (22, .call (.p (.int .i64 y_8)) []), (26, .dec true)], .n 3] (by kernel_rfl) (Obs.of (by kernel_rfl) (And.intro g_1 (And.intro g_2 (And.intro (erasureref01_Valid.spec e_4) (And.intro (nt g_5) (And.intro g_6 (And.intro g_7 (And.intro g_2 (And.intro (erasureref01_Compare.spec e_9) g_10)))))))))
          · obtain ⟨y_11, e_12, h⟩ := bind_or h
            rcases ite_or h with ⟨g_13, h⟩ | ⟨g_13, h⟩
            · obtain rfl := Option.some.inj h
              exact RunC.out [.n 2, .r [(3, .dec true)], .n 5, .r [(5, .call (.p (.bool y_3)) []), (7, .dec false), (10, .dec true), (22, .call (.p (.int .i64 y_8)) []), (26, .dec false), (32, .call (.p (.bool y_11)) []), (35, .dec true)], .n 3] (by kernel_rfl) (Obs.of (by kernel_rfl) (And.intro g_1 (And.intro g_2 (And.intro (erasureref01_Valid.spec e_4) (And.intro (nt g_5) (And.intro g_6 (And.intro g_7 (And.intro g_2 (And.intro (erasureref01_Compare.spec e_9) (And.intro (nt g_10) (And.intro g_2 (And.intro (erasureref06_Valid.spec e_12) g_13))))))))))))
            · rcases ite_or h with ⟨g_14, h⟩ | ⟨g_14, h⟩
              · obtain rfl := Option.some.inj h
                exact RunC.out [.n 2, .r [(3, .dec true)], .n 5, .r [(5, .call (.p (.bool y_3)) []), (7, .dec false), (10, .dec true), (22, .call (.p (.int .i64 y_8)) []), (26, .dec false), (32, .call (.p (.bool y_11)) []), (35, .dec false), (43, .dec true)], .n 3] (by kernel_rfl) (Obs.of (by kernel_rfl) (And.intro g_1 (And.intro g_2 (And.intro (erasureref01_Valid.spec e_4) (And.intro (nt g_5) (And.intro g_6 (And.intro g_7 (And.intro g_2 (And.intro (erasureref01_Compare.spec e_9) (And.intro (nt g_10) (And.intro g_2 (And.intro (erasureref06_Valid.spec e_12) (And.intro (nt g_13) (And.intro g_2 g_14))))))))))))))
              · rcases ite_or h with ⟨g_15, h⟩ | ⟨g_15, h⟩
                · obtain rfl := Option.some.inj h
                  exact RunC.out [.n 2, .r [(3, .dec true)], .n 5, .r [(5, .call (.p (.bool y_3)) []), (7, .dec false), (10, .dec true), (22, .call (.p (.int .i64 y_8)) []), (26, .dec false), (32, .call (.p (.bool y_11)) []), (35, .dec false), (43, .dec false), (50, .dec true)], .n 3] (by kernel_rfl) (Obs.of (by kernel_rfl) (And.intro g_1 (And.intro g_2 (And.intro (erasureref01_Valid.spec e_4) (And.intro (nt g_5) (And.intro g_6 (And.intro g_7 (And.intro g_2 (And.intro (erasureref01_Compare.spec e_9) (And.intro (nt g_10) (And.intro g_2 (And.intro (erasureref06_Valid.spec e_12) (And.intro (nt g_13) (And.intro g_2 (And.intro (nt g_14) (And.intro g_2 g_15))))))))))))))))
                · exact RunC.go [.n 2, .r [(3, .dec true)], .n 5, .r [(5, .call (.p (.bool y_3)) []), (7, .dec false), (10, .dec true), (22, .call (.p (.int .i64 y_8)) []), (26, .dec false), (32, .call (.p (.bool y_11)) []), (35, .dec false), (43, .dec false), (50, .dec false)], .n 5, .k [0, 3]] (by kernel_rfl) (Obs.of (by kernel_rfl) (And.intro g_1 (And.intro g_2 (And.intro (erasureref01_Valid.spec e_4) (And.intro (nt g_5) (And.intro g_6 (And.intro g_7 (And.intro g_2 (And.intro (erasureref01_Compare.spec e_9) (And.intro (nt g_10) (And.intro g_2 (And.intro (erasureref06_Valid.spec e_12) (And.intro (nt g_13) (And.intro g_2 (And.intro (nt g_14) (And.intro g_2 (nt g_15))))))))))))))))) (ih _ _ r h)
        · obtain ⟨y_16, e_17, h⟩ := bind_or h
          rcases ite_or h with ⟨g_18, h⟩ | ⟨g_18, h⟩
          · obtain rfl := Option.some.inj h
            exact RunC.out [.n 2, .r [(3, .dec true)], .n 5, .r [(5, .call (.p (.bool y_3)) []), (7, .dec false), (10, .dec false), (32, .call (.p (.bool y_16)) []), (35, .dec true)], .n 3] (by kernel_rfl) (Obs.of (by kernel_rfl) (And.intro g_1 (And.intro g_2 (And.intro (erasureref01_Valid.spec e_4) (And.intro (nt g_5) (And.intro (nt g_6) (And.intro g_2 (And.intro (erasureref06_Valid.spec e_17) g_18))))))))
          · rcases ite_or h with ⟨g_19, h⟩ | ⟨g_19, h⟩
            · obtain rfl := Option.some.inj h
              exact RunC.out [.n 2, .r [(3, .dec true)], .n 5, .r [(5, .call (.p (.bool y_3)) []), (7, .dec false), (10, .dec false), (32, .call (.p (.bool y_16)) []), (35, .dec false), (43, .dec true)], .n 3] (by kernel_rfl) (Obs.of (by kernel_rfl) (And.intro g_1 (And.intro g_2 (And.intro (erasureref01_Valid.spec e_4) (And.intro (nt g_5) (And.intro (nt g_6) (And.intro g_2 (And.intro (erasureref06_Valid.spec e_17) (And.intro (nt g_18) (And.intro g_2 g_19))))))))))
            · rcases ite_or h with ⟨g_20, h⟩ | ⟨g_20, h⟩
              · obtain rfl := Option.some.inj h
                exact RunC.out [.n 2, .r [(3, .dec true)], .n 5, .r [(5, .call (.p (.bool y_3)) []), (7, .dec false), (10, .dec false), (32, .call (.p (.bool y_16)) []), (35, .dec false), (43, .dec false), (50, .dec true)], .n 3] (by kernel_rfl) (Obs.of (by kernel_rfl) (And.intro g_1 (And.intro g_2 (And.intro (erasureref01_Valid.spec e_4) (And.intro (nt g_5) (And.intro (nt g_6) (And.intro g_2 (And.intro (erasureref06_Valid.spec e_17) (And.intro (nt g_18) (And.intro g_2 (And.intro (nt g_19) (And.intro g_2 g_20))))))))))))
              · exact RunC.go [.n 2, .r [(3, .dec true)], .n 5, .r [(5, .call (.p (.bool y_3)) []), (7, .dec false), (10, .dec false), (32, .call (.p (.bool y_16)) []), (35, .dec false), (43, .dec false), (50, .dec false)], .n 5, .k [0, 3]] (by kernel_rfl) (Obs.of (by kernel_rfl) (And.intro g_1 (And.intro g_2 (And.intro (erasureref01_Valid.spec e_4) (And.intro (nt g_5) (And.intro (nt g_6) (And.intro g_2 (And.intro (erasureref06_Valid.spec e_17) (And.intro (nt g_18) (And.intro g_2 (And.intro (nt g_19) (And.intro g_2 (nt g_20))))))))))))) (ih _ _ r h)
    · obtain rfl := Option.some.inj h
      exact RunC.out [.n 2, .r [(3, .dec false)], .n 4] (by kernel_rfl) (Obs.of (by kernel_rfl) (nt g_1))
theorem erasureref30_Valid.run   {k : Nat} {s0 : (List TCached)} {r : Bool} (h : erasureref30_Valid k s0 = some r) : RunC Try.prog Try.f31 erasureref30_Valid.t (erasureref30_Valid.s s0) (.p (.bool r)) [] := by
  unfold erasureref30_Valid at h
  exact RunC.go [.n 7, .k [0, 3]] (by kernel_rfl) (Obs.tt (by kernel_rfl)) (erasureref30_Valid.p1.run k _ _ r h)
theorem erasureref30_Valid.p1.mono   : ∀ (k k' : Nat) (s0 : (List TCached)) (i3 : Int) (r : Bool), k ≤ k' → erasureref30_Valid.p1 k s0 i3 = some r → erasureref30_Valid.p1 k' s0 i3 = some r := by
  intro k
  induction k with
  | zero => intro k' s0 i3 r hk h; simp [erasureref30_Valid.p1] at h
  | succ k ih =>
    intro k' s0 i3 r hk h
    obtain ⟨k', rfl⟩ : ∃ m, k' = m + 1 := ⟨k' - 1, by omega⟩
    replace hk := Nat.le_of_succ_le_succ hk
    rw [erasureref30_Valid.p1] at h ⊢
    rcases ite_or h with ⟨g_1, h⟩ | ⟨g_1, h⟩
    · refine itp g_1 ?_
      obtain ⟨g_2, h⟩ := ite_some h
      refine itp g_2 ?_
      obtain ⟨y_3, e_4, h⟩ := bind_or h
      refine bnd (erasureref01_Valid.mono _ _ _ _ hk e_4) ?_
      rcases ite_or h with ⟨g_5, h⟩ | ⟨g_5, h⟩
      · refine itp g_5 ?_
        exact h
      · refine itn g_5 ?_
        rcases ite_or h with ⟨g_6, h⟩ | ⟨g_6, h⟩
        · refine itp g_6 ?_
          obtain ⟨g_7, h⟩ := ite_some h
          refine itp g_7 ?_
          obtain ⟨y_8, e_9, h⟩ := bind_or h
          refine bnd (erasureref01_Compare.mono _ _ _ _ _ hk e_9) ?_
          rcases ite_or h with ⟨g_10, h⟩ | ⟨g_10, h⟩
          · refine itp g_10 ?_
            exact h
          · refine itn g_10 ?_
            obtain ⟨y_11, e_12, h⟩ := bind_or h
            refine bnd (erasureref06_Valid.mono _ _ _ _ hk e_12) ?_
            rcases ite_or h with ⟨g_13, h⟩ | ⟨g_13, h⟩
            · refine itp g_13 ?_
              exact h
            · refine itn g_13 ?_
              rcases ite_or h with ⟨g_14, h⟩ | ⟨g_14, h⟩
              · refine itp g_14 ?_
                exact h
              · refine itn g_14 ?_
                rcases ite_or h with ⟨g_15, h⟩ | ⟨g_15, h⟩
                · refine itp g_15 ?_
                  exact h
                · refine itn g_15 ?_
                  exact ih _ _ _ r hk h
        · refine itn g_6 ?_
          obtain ⟨y_16, e_17, h⟩ := bind_or h
          refine bnd (erasureref06_Valid.mono _ _ _ _ hk e_17) ?_
          rcases ite_or h with ⟨g_18, h⟩ | ⟨g_18, h⟩
          · refine itp g_18 ?_
            exact h
          · refine itn g_18 ?_
            rcases ite_or h with ⟨g_19, h⟩ | ⟨g_19, h⟩
            · refine itp g_19 ?_
              exact h
            · refine itn g_19 ?_
              rcases ite_or h with ⟨g_20, h⟩ | ⟨g_20, h⟩
              · refine itp g_20 ?_
                exact h
              · refine itn g_20 ?_
                exact ih _ _ _ r hk h
    · refine itn g_1 ?_
      exact h
theorem erasureref30_Valid.mono   : ∀ (k k' : Nat) (s0 : (List TCached)) (r : Bool), k ≤ k' → erasureref30_Valid k s0 = some r → erasureref30_Valid k' s0 = some r := by
  intro k k' s0 r hk h
  unfold erasureref30_Valid at h ⊢
  exact erasureref30_Valid.p1.mono _ _ _ _ r hk h
theorem erasureref30_Valid.spec {k : Nat} {s0 : (List TCached)} {r : Bool} (h : erasureref30_Valid k s0 = some r) : Spec Try.prog 31 [.p (eL 5 cCached dCached s0)] (.p (.bool r)) [] :=
  spec_of mix Try.func31 (body := bodyOf Try.f31) (by kernel_rfl) (by kernel_rfl) (erasureref30_Valid.run h)
end Go.Proofs.YtjhnpaenhdbhpabV
set_option linter.unusedVariables false
set_option linter.unusedSimpArgs false
set_option maxRecDepth 100000
namespace Go.Proofs.YtjhnpaenhdbhpabV
open Go Go.RowKit
noncomputable def erasureref30_ranged  (k : Nat) (c0 : TCache) (day1 : Int) : Option Bool := if (decide (c0.f3 ≥ 0)) = true then (if (decide (c0.f3 ≤ 1048576)) = true then (if (decide (day1 ≥ 0)) = true then (some (decide (day1 ≤ 1048576))) else (some false)) else (some false)) else (some false)
noncomputable def erasureref30_ranged.t : List Item := [.code (bodyOf Try.f45)]
noncomputable def erasureref30_ranged.s (c0 : TCache) (day1 : Int) : St := ⟨frOf Try.f45.ntmps 0 [(0, .agg ((cCache c0).map .p)), (1, .p (.int .i64 day1))], []⟩
theorem erasureref30_ranged.run   {k : Nat} {c0 : TCache} {day1 : Int} {r : Bool} (h : erasureref30_ranged k c0 day1 = some r) : RunC Try.prog Try.f45 erasureref30_ranged.t (erasureref30_ranged.s c0 day1) (.p (.bool r)) [] := by
  unfold erasureref30_ranged at h
  rcases ite_or h with ⟨g_1, h⟩ | ⟨g_1, h⟩
  · rcases ite_or h with ⟨g_2, h⟩ | ⟨g_2, h⟩
    · rcases ite_or h with ⟨g_3, h⟩ | ⟨g_3, h⟩
      · obtain rfl := Option.some.inj h
        exact RunC.out [.n 3, .r [(3, .dec true), (8, .dec true), (12, .dec true)]] (by kernel_rfl) (Obs.of (by kernel_rfl) (And.intro g_1 (And.intro g_2 g_3)))
      · obtain rfl := Option.some.inj h
        exact RunC.out [.n 3, .r [(3, .dec true), (8, .dec true), (12, .dec false)]] (by kernel_rfl) (Obs.of (by kernel_rfl) (And.intro g_1 (And.intro g_2 (nt g_3))))
    · obtain rfl := Option.some.inj h
      exact RunC.out [.n 3, .r [(3, .dec true), (8, .dec false)]] (by kernel_rfl) (Obs.of (by kernel_rfl) (And.intro g_1 (nt g_2)))
  · obtain rfl := Option.some.inj h
    exact RunC.out [.n 3, .r [(3, .dec false)]] (by kernel_rfl) (Obs.of (by kernel_rfl) (nt g_1))
theorem erasureref30_ranged.mono   : ∀ (k k' : Nat) (c0 : TCache) (day1 : Int) (r : Bool), k ≤ k' → erasureref30_ranged k c0 day1 = some r → erasureref30_ranged k' c0 day1 = some r := by
  intro k k' c0 day1 r hk h
  unfold erasureref30_ranged at h ⊢
  rcases ite_or h with ⟨g_1, h⟩ | ⟨g_1, h⟩
  · refine itp g_1 ?_
    rcases ite_or h with ⟨g_2, h⟩ | ⟨g_2, h⟩
    · refine itp g_2 ?_
      rcases ite_or h with ⟨g_3, h⟩ | ⟨g_3, h⟩
      · refine itp g_3 ?_
        exact h
      · refine itn g_3 ?_
        exact h
    · refine itn g_2 ?_
      exact h
  · refine itn g_1 ?_
    exact h
theorem erasureref30_ranged.spec {k : Nat} {c0 : TCache} {day1 : Int} {r : Bool} (h : erasureref30_ranged k c0 day1 = some r) : Spec Try.prog 45 [.agg ((cCache c0).map .p), .p (.int .i64 day1)] (.p (.bool r)) [] :=
  spec_of mix Try.func45 (body := bodyOf Try.f45) (by kernel_rfl) (by kernel_rfl) (erasureref30_ranged.run h)
end Go.Proofs.YtjhnpaenhdbhpabV
set_option linter.unusedVariables false
set_option linter.unusedSimpArgs false
set_option maxRecDepth 100000
namespace Go.Proofs.YtjhnpaenhdbhpabV
open Go Go.RowKit
noncomputable def erasureref30_Expire.p1  : Nat → (List TCached) → Int → Int → TCache → (List TCached) → Option (List TCached)
  | 0, _, _, _, _, _ => none
  | k + 1, s1, day2, i8, c3b, out7 => if (decide (i8 < ((s1).length : Int))) = true then (if 0 ≤ i8 ∧ i8 < ((s1).length : Int) then (if (decide (day2 ≥ (s1.getD i8.toNat dCached).f2)) = true then (if (decide (day2 < (IntKind.i64.wrap ((s1.getD i8.toNat dCached).f2 + c3b.f3)))) = true then (if (out7).length + ([(s1.getD i8.toNat dCached)]).length ≤ maxLen ∧ ((out7).length + ([(s1.getD i8.toNat dCached)]).length) * 64 ≤ 140737488355328 then (erasureref30_Expire.p1 k s1 day2 (IntKind.i64.wrap (i8 + 1)) c3b (out7 ++ ([(s1.getD i8.toNat dCached)]))) else none) else (erasureref30_Expire.p1 k s1 day2 (IntKind.i64.wrap (i8 + 1)) c3b out7)) else (erasureref30_Expire.p1 k s1 day2 (IntKind.i64.wrap (i8 + 1)) c3b out7)) else none) else (some out7)
noncomputable def erasureref30_Expire  (k : Nat) (c0 : TCache) (s1 : (List TCached)) (day2 : Int) : Option (List TCached) := (erasureref30_Valid k s1).bind fun y_1 => (if (!y_1) = true then (some ([] : List TCached)) else ((erasureref30_ranged k c0 day2).bind fun y_4 => (if (!y_4) = true then (some ([] : List TCached)) else (erasureref30_Expire.p1 k s1 day2 0 c0 ([] : List TCached)))))
noncomputable def erasureref30_Expire.t : List Item := [.code (bodyOf Try.f26)]
noncomputable def erasureref30_Expire.s (c0 : TCache) (s1 : (List TCached)) (day2 : Int) : St := ⟨frOf Try.f26.ntmps 0 [(0, .agg ((cCache c0).map .p)), (1, .p (eL 5 cCached dCached s1)), (2, .p (.int .i64 day2))], []⟩
noncomputable def erasureref30_Expire.p1.t : List Item := nav 14 [false] erasureref30_Expire.t
noncomputable def erasureref30_Expire.p1.s (s1 : (List TCached)) (day2 : Int) (i8 : Int) (c3b : TCache) (out7 : (List TCached)) : St := ⟨frOf Try.f26.ntmps 0 [(1, .p (eL 5 cCached dCached s1)), (2, .p (.int .i64 day2)), (3, .ptr 0 0 0), (7, .sref 1 46 5 (out7).length), (8, .p (.int .i64 i8))], [.box ((cCache c3b).map .p), (oL true 46 5 cCached dCached out7)]⟩
theorem erasureref30_Expire.p1.run   : ∀ (k : Nat) (s1 : (List TCached)) (day2 : Int) (i8 : Int) (c3b : TCache) (out7 : (List TCached)) (r : (List TCached)), erasureref30_Expire.p1 k s1 day2 i8 c3b out7 = some r → RunC Try.prog Try.f26 erasureref30_Expire.p1.t (erasureref30_Expire.p1.s s1 day2 i8 c3b out7) (.sref 0 46 5 (r).length) [(oL true 46 5 cCached dCached (r))] := by
  intro k
  induction k with
  | zero => intro s1 day2 i8 c3b out7 r h; simp [erasureref30_Expire.p1] at h
  | succ k ih =>
    intro s1 day2 i8 c3b out7 r h
    rw [erasureref30_Expire.p1] at h
    rcases ite_or h with ⟨g_7, h⟩ | ⟨g_7, h⟩
    · obtain ⟨g_8, h⟩ := ite_some h
      rcases ite_or h with ⟨g_9, h⟩ | ⟨g_9, h⟩
      · rcases ite_or h with ⟨g_10, h⟩ | ⟨g_10, h⟩
        · obtain ⟨g_11, h⟩ := ite_some h
          exact RunC.go [.n 2, .r [(3, .dec true)], .n 5, .r [(7, .dec true), (18, .dec true)], .n 1, .r [(5, .obj (oL true 46 5 cCached dCached [(s1.getD i8.toNat dCached)])), (6, .obj (oL true 46 5 cCached dCached (out7 ++ ([(s1.getD i8.toNat dCached)]))))], .n 3, .k [1, 2, 3, 7, 8]] (by kernel_rfl) (Obs.of (by kernel_rfl) (And.intro g_7 (And.intro g_8 (And.intro g_9 (And.intro g_8 (And.intro g_10 (And.intro g_8 (And.intro (le_one 46 5 cCached dCached (s1.getD i8.toNat dCached)) (And.intro g_11 (le_app 46 5 cCached dCached out7 ([(s1.getD i8.toNat dCached)]))))))))))) (ih _ _ _ _ _ r h)
        · exact RunC.go [.n 2, .r [(3, .dec true)], .n 5, .r [(7, .dec true), (18, .dec false)], .n 5, .k [1, 2, 3, 7, 8]] (by kernel_rfl) (Obs.of (by kernel_rfl) (And.intro g_7 (And.intro g_8 (And.intro g_9 (And.intro g_8 (nt g_10)))))) (ih _ _ _ _ _ r h)
      · exact RunC.go [.n 2, .r [(3, .dec true)], .n 5, .r [(7, .dec false)], .n 5, .k [1, 2, 3, 7, 8]] (by kernel_rfl) (Obs.of (by kernel_rfl) (And.intro g_7 (And.intro g_8 (nt g_9)))) (ih _ _ _ _ _ r h)
    · obtain rfl := Option.some.inj h
      exact RunC.out [.n 2, .r [(3, .dec false)], .n 4] (by kernel_rfl) (Obs.of (by kernel_rfl) (nt g_7))
theorem erasureref30_Expire.run   {k : Nat} {c0 : TCache} {s1 : (List TCached)} {day2 : Int} {r : (List TCached)} (h : erasureref30_Expire k c0 s1 day2 = some r) : RunC Try.prog Try.f26 erasureref30_Expire.t (erasureref30_Expire.s c0 s1 day2) (.sref 0 46 5 (r).length) [(oL true 46 5 cCached dCached (r))] := by
  unfold erasureref30_Expire at h
  obtain ⟨y_1, e_2, h⟩ := bind_or h
  rcases ite_or h with ⟨g_3, h⟩ | ⟨g_3, h⟩
  · obtain rfl := Option.some.inj h
    exact RunC.out [.n 1, .r [(1, .obj (oL true 46 5 cCached dCached ([] : List TCached)))], .n 2, .r [(1, .call (.p (.bool y_1)) []), (3, .dec true)], .n 2, .r [(0, .obj (oL true 46 5 cCached dCached ([] : List TCached)))]] (by kernel_rfl) (Obs.of (by kernel_rfl) (And.intro (le_nil 46 5 cCached dCached) (And.intro (erasureref30_Valid.spec e_2) (And.intro g_3 (le_nil 46 5 cCached dCached)))))
  · obtain ⟨y_4, e_5, h⟩ := bind_or h
    rcases ite_or h with ⟨g_6, h⟩ | ⟨g_6, h⟩
    · obtain rfl := Option.some.inj h
      exact RunC.out [.n 1, .r [(1, .obj (oL true 46 5 cCached dCached ([] : List TCached)))], .n 2, .r [(1, .call (.p (.bool y_1)) []), (3, .dec false), (6, .call (.p (.bool y_4)) []), (8, .dec true)], .n 2, .r [(0, .obj (oL true 46 5 cCached dCached ([] : List TCached)))]] (by kernel_rfl) (Obs.of (by kernel_rfl) (And.intro (le_nil 46 5 cCached dCached) (And.intro (erasureref30_Valid.spec e_2) (And.intro (nt g_3) (And.intro (erasureref30_ranged.spec e_5) (And.intro g_6 (le_nil 46 5 cCached dCached)))))))
    · exact RunC.go [.n 1, .r [(1, .obj (oL true 46 5 cCached dCached ([] : List TCached)))], .n 2, .r [(1, .call (.p (.bool y_1)) []), (3, .dec false), (6, .call (.p (.bool y_4)) []), (8, .dec false)], .n 3, .r [(0, .obj (oL true 46 5 cCached dCached ([] : List TCached)))], .n 5, .k [1, 2, 3, 7, 8]] (by kernel_rfl) (Obs.of (by kernel_rfl) (And.intro (le_nil 46 5 cCached dCached) (And.intro (erasureref30_Valid.spec e_2) (And.intro (nt g_3) (And.intro (erasureref30_ranged.spec e_5) (And.intro (nt g_6) (le_nil 46 5 cCached dCached))))))) (erasureref30_Expire.p1.run k _ _ _ _ _ r h)
theorem erasureref30_Expire.p1.mono   : ∀ (k k' : Nat) (s1 : (List TCached)) (day2 : Int) (i8 : Int) (c3b : TCache) (out7 : (List TCached)) (r : (List TCached)), k ≤ k' → erasureref30_Expire.p1 k s1 day2 i8 c3b out7 = some r → erasureref30_Expire.p1 k' s1 day2 i8 c3b out7 = some r := by
  intro k
  induction k with
  | zero => intro k' s1 day2 i8 c3b out7 r hk h; simp [erasureref30_Expire.p1] at h
  | succ k ih =>
    intro k' s1 day2 i8 c3b out7 r hk h
    obtain ⟨k', rfl⟩ : ∃ m, k' = m + 1 := ⟨k' - 1, by omega⟩
    replace hk := Nat.le_of_succ_le_succ hk
    rw [erasureref30_Expire.p1] at h ⊢
    rcases ite_or h with ⟨g_7, h⟩ | ⟨g_7, h⟩
    · refine itp g_7 ?_
      obtain ⟨g_8, h⟩ := ite_some h
      refine itp g_8 ?_
      rcases ite_or h with ⟨g_9, h⟩ | ⟨g_9, h⟩
      · refine itp g_9 ?_
        rcases ite_or h with ⟨g_10, h⟩ | ⟨g_10, h⟩
        · refine itp g_10 ?_
          obtain ⟨g_11, h⟩ := ite_some h
          refine itp g_11 ?_
          exact ih _ _ _ _ _ _ r hk h
        · refine itn g_10 ?_
          exact ih _ _ _ _ _ _ r hk h
      · refine itn g_9 ?_
        exact ih _ _ _ _ _ _ r hk h
    · refine itn g_7 ?_
      exact h
theorem erasureref30_Expire.mono   : ∀ (k k' : Nat) (c0 : TCache) (s1 : (List TCached)) (day2 : Int) (r : (List TCached)), k ≤ k' → erasureref30_Expire k c0 s1 day2 = some r → erasureref30_Expire k' c0 s1 day2 = some r := by
  intro k k' c0 s1 day2 r hk h
  unfold erasureref30_Expire at h ⊢
  obtain ⟨y_1, e_2, h⟩ := bind_or h
  refine bnd (erasureref30_Valid.mono _ _ _ _ hk e_2) ?_
  rcases ite_or h with ⟨g_3, h⟩ | ⟨g_3, h⟩
  · refine itp g_3 ?_
    exact h
  · refine itn g_3 ?_
    obtain ⟨y_4, e_5, h⟩ := bind_or h
    refine bnd (erasureref30_ranged.mono _ _ _ _ _ hk e_5) ?_
    rcases ite_or h with ⟨g_6, h⟩ | ⟨g_6, h⟩
    · refine itp g_6 ?_
      exact h
    · refine itn g_6 ?_
      exact erasureref30_Expire.p1.mono _ _ _ _ _ _ _ r hk h
theorem erasureref30_Expire.spec {k : Nat} {c0 : TCache} {s1 : (List TCached)} {day2 : Int} {r : (List TCached)} (h : erasureref30_Expire k c0 s1 day2 = some r) : Spec Try.prog 26 [.agg ((cCache c0).map .p), .p (eL 5 cCached dCached s1), .p (.int .i64 day2)] (.sref 0 46 5 (r).length) [(oL true 46 5 cCached dCached (r))] :=
  spec_of mix Try.func26 (body := bodyOf Try.f26) (by kernel_rfl) (by kernel_rfl) (erasureref30_Expire.run h)
end Go.Proofs.YtjhnpaenhdbhpabV
set_option linter.unusedVariables false
set_option linter.unusedSimpArgs false
namespace Go.Proofs.YtjhnpaenhdbhpabV
open Go Go.RowKit
def Ev {α : Type} (g : Nat → Option α) (r : α) : Prop := ∃ K, ∀ k, K ≤ k → g k = some r
theorem Ev.now {α : Type} (r : α) : Ev (fun _ => some r) r := ⟨0, fun _ _ => rfl⟩
theorem Ev.any {α : Type} {g : Nat → Option α} {r : α} (h : ∀ k, g k = some r) : Ev g r := ⟨0, fun k _ => h k⟩
theorem Ev.done {α : Type} {a r : α} (h : a = r) : Ev (fun _ => some a) r := by subst h; exact Ev.now _
theorem Ev.bind {α β : Type} {f : Nat → Option α} {g : Nat → α → Option β} {a : α} {r : β} (h : Ev f a) (h' : Ev (fun k => g k a) r) : Ev (fun k => (f k).bind (g k)) r := by
  obtain ⟨K, h⟩ := h; obtain ⟨L, h'⟩ := h'
  exact ⟨max K L, fun k hk => by show (f k).bind (g k) = some r; rw [h k (by omega)]; exact h' k (by omega)⟩
theorem Ev.succ {α : Type} {g : Nat → Option α} {r : α} (h : Ev (fun k => g (k + 1)) r) : Ev g r := by
  obtain ⟨K, h⟩ := h
  exact ⟨K + 1, fun k hk => by obtain ⟨m, rfl⟩ : ∃ m, k = m + 1 := ⟨k - 1, by omega⟩; exact h m (by omega)⟩
theorem Ev.congr {α : Type} {f g : Nat → Option α} {r : α} (h : ∀ k, g k = f k) (k : Ev f r) : Ev g r := by rw [show g = f from funext h]; exact k
theorem Ev.ite_pos {α : Type} {g f : Nat → Option α} {r : α} {c : Prop} [Decidable c] (h : c) (k : Ev g r) : Ev (fun n => if c then g n else f n) r := Ev.congr (fun n => if_pos h) k
theorem Ev.ite_neg {α : Type} {g f : Nat → Option α} {r : α} {c : Prop} [Decidable c] (h : ¬ c) (k : Ev f r) : Ev (fun n => if c then g n else f n) r := Ev.congr (fun n => if_neg h) k
theorem Ev.of {α : Type} {g : Nat → Option α} {r : α} (m : ∀ k k', k ≤ k' → g k = some r → g k' = some r) {k : Nat} (h : g k = some r) : Ev g r := ⟨k, fun k' hk => m k k' hk h⟩
theorem Ev.some {α : Type} {g : Nat → Option α} {r : α} (h : Ev g r) : ∃ k, g k = Option.some r := by obtain ⟨K, h⟩ := h; exact ⟨K, h K (Nat.le_refl _)⟩
theorem Ev.to {α : Type} {g : Nat → Option α} {r s : α} (h : Ev g r) (e : r = s) : Ev g s := by subst e; exact h
theorem bytes_ext {a b : ByteArray} (h : a.data.toList = b.data.toList) : a = b := by
  cases a; cases b; congr 1; exact Array.toList_inj.1 h
theorem bytes_beq (a b : ByteArray) : (a.data.toList == b.data.toList) = decide (a = b) := by
  rw [Bool.eq_iff_iff, beq_iff_eq, decide_eq_true_eq]; exact ⟨bytes_ext, fun h => by rw [h]⟩
theorem loop_down {P : Nat → Prop} (n : Nat) (hend : P n) (hstep : ∀ i, i < n → P (i + 1) → P i) : ∀ i, i ≤ n → P i := by
  intro i hi
  have key : ∀ d i, i + d = n → P i := by
    intro d
    induction d with
    | zero => intro i h; have : i = n := by omega
              rw [this]; exact hend
    | succ d ih => intro i h; exact hstep i (by omega) (ih (i + 1) (by omega))
  exact key (n - i) i (by omega)
theorem wr {n : Int} (h : -9223372036854775808 ≤ n ∧ n ≤ 9223372036854775807) : IntKind.i64.wrap n = n := by rw [IntKind.wrap_i64]; omega
theorem wrn {i n : Nat} (h : i < n) (hn : n ≤ 9223372036854775807) : IntKind.i64.wrap ((i : Int) + 1) = ((i + 1 : Nat) : Int) := by rw [wr (by omega)]; omega
theorem wrp {i : Nat} (h : 0 < i) (hn : i ≤ 9223372036854775807) : IntKind.i64.wrap ((i : Int) - 1) = ((i - 1 : Nat) : Int) := by rw [wr (by omega)]; omega
theorem drop_cons {α : Type} (z : α) {l : List α} {i : Nat} (h : i < l.length) : l.drop i = l.getD (i : Int).toNat z :: l.drop (i + 1) := by
  rw [List.drop_eq_getElem_cons h]; simp [h]
theorem getD_mem {α : Type} (z : α) {l : List α} {i : Nat} (h : i < l.length) : l.getD (i : Int).toNat z ∈ l := by simp [h]
end Go.Proofs.YtjhnpaenhdbhpabV
set_option linter.unusedVariables false
set_option linter.unusedSimpArgs false
namespace Go.Proofs.YtjhnpaenhdbhpabV
open Go Go.RowKit
theorem V_ext {x y : TValue} (h0 : x.f0 = y.f0) (h1 : x.f1 = y.f1) (h2 : x.f2 = y.f2) : x = y := by cases x; cases y; simp_all
instance : DecidableEq TValue := fun x y => decidable_of_iff (x.f0 = y.f0 ∧ x.f1 = y.f1 ∧ x.f2 = y.f2) ⟨fun h => V_ext h.1 h.2.1 h.2.2, fun h => by subst h; exact ⟨rfl, rfl, rfl⟩⟩
def okV (x : TValue) : Bool :=
  if x.f0 = 0 then decide (x.f1 = 0) && decide (x.f2 = (⟨#[]⟩ : ByteArray))
  else if x.f0 = 1 then decide (-4294967296 ≤ x.f1 ∧ x.f1 ≤ 4294967296) && decide (x.f2 = (⟨#[]⟩ : ByteArray))
  else if x.f0 = 2 then decide (x.f1 = 0) && decide (x.f2.size ≤ 32)
  else false
def clV (x : TValue) : TValue := if okV x then x else ⟨0, 0, ⟨#[]⟩⟩
theorem beq_empty (a : ByteArray) : (a.data.toList == (#[] : Array UInt8).toList) = decide (a = (⟨#[]⟩ : ByteArray)) := bytes_beq a ⟨#[]⟩
theorem beq_nil (a : ByteArray) : (a.data.toList == ([] : List UInt8)) = decide (a = (⟨#[]⟩ : ByteArray)) := bytes_beq a ⟨#[]⟩
theorem value_Valid_eq (k : Nat) (v : TValue) : value_Valid k v = some (okV v) := by
  unfold value_Valid value_inRange okV
  simp only [beq_empty, beq_nil, beq_iff_eq, decide_eq_true_eq]
  generalize decide (v.f2 = (⟨#[]⟩ : ByteArray)) = q
  by_cases h0 : v.f0 = 0
  · simp only [if_pos h0]
    by_cases h1 : v.f1 = 0 <;> simp [h1]
  · simp only [if_neg h0]
    by_cases h1 : v.f0 = 1
    · simp only [if_pos h1]
      by_cases h2 : v.f1 ≥ -4294967296
      · rw [if_pos h2]; simp only [Option.bind_some, decide_eq_true_eq]
        by_cases h3 : v.f1 ≤ 4294967296
        · rw [if_pos h3]; simp [h3]; omega
        · rw [if_neg h3]; simp [h3]
      · rw [if_neg h2]; simp; omega
    · simp only [if_neg h1]
      by_cases h2 : v.f0 = 2
      · simp only [if_pos h2]
        by_cases h3 : v.f1 = 0
        · simp [h3]; omega
        · simp [h3]
      · simp [h2]
theorem ref01_Valid_eq (k : Nat) (v : TValue) : erasureref01_Valid k v = some (okV v) := by
  rw [← value_Valid_eq k]
  unfold erasureref01_Valid value_Valid value_inRange
  by_cases h0 : (v.f0 == 0) = true
  · simp only [if_pos h0]
  · simp only [if_neg h0]
    by_cases h1 : (v.f0 == 1) = true
    · simp only [if_pos h1]
      by_cases h2 : decide (v.f1 ≥ -4294967296) = true
      · simp only [if_pos h2, Option.bind_some]
      · simp only [if_neg h2, Option.bind_some, Bool.false_eq_true, if_false]
    · simp only [if_neg h1]
theorem value_Clean_eq (k : Nat) (x : TValue) : value_Clean k x = some (clV x) := by
  unfold value_Clean clV value_Clean.p1 value_Clean.p2
  rw [value_Valid_eq, Option.bind_some]
  by_cases h : okV x = true
  · rw [if_pos h, if_pos h]
  · rw [if_neg h, if_neg h]
theorem ref01_Clean_eq (k : Nat) (x : TValue) : erasureref01_Clean k x = some (clV x) := by
  unfold erasureref01_Clean clV erasureref01_Clean.p1 erasureref01_Clean.p2
  rw [ref01_Valid_eq, Option.bind_some]
  by_cases h : okV x = true
  · rw [if_pos h, if_pos h]
  · rw [if_neg h, if_neg h]
theorem eqV_iff (x y : TValue) : ((x.f0 == y.f0) && ((x.f1 == y.f1) && ((x.f2.data.toList == y.f2.data.toList) && true))) = decide (x = y) := by
  rw [bytes_beq, Bool.eq_iff_iff]
  simp only [Bool.and_eq_true, beq_iff_eq, decide_eq_true_eq, and_true]
  exact ⟨fun h => V_ext h.1 h.2.1 h.2.2, fun h => by subst h; exact ⟨rfl, rfl, rfl⟩⟩
theorem dV {l : List TValue} {i : Nat} (h : i < l.length) : l.drop i = l.getD (i : Int).toNat dValue :: l.drop (i + 1) := drop_cons _ h
theorem dE {l : List TEntry} {i : Nat} (h : i < l.length) : l.drop i = l.getD (i : Int).toNat dEntry :: l.drop (i + 1) := drop_cons _ h
end Go.Proofs.YtjhnpaenhdbhpabV
set_option linter.unusedVariables false
set_option linter.unusedSimpArgs false
namespace Go.Proofs.YtjhnpaenhdbhpabV
open Go Go.RowKit
theorem bytesLess_eq : ∀ (x y : List UInt8), Op.bytesLess x y = decide (x < y)
  | [], [] => by simp [Op.bytesLess]
  | _ :: _, [] => by simp [Op.bytesLess]
  | [], _ :: _ => by simp [Op.bytesLess]
  | a :: x, b :: y => by
    rw [Op.bytesLess, bytesLess_eq x y]
    simp only [List.cons_lt_cons_iff]
    by_cases h1 : a < b <;> by_cases h2 : a = b <;> by_cases h3 : x < y <;> simp [h1, h2, h3]
theorem gtr_flip (a b : List UInt8) : (!(Op.bytesLess a b || a == b)) = Op.bytesLess b a := by
  rw [bytesLess_eq, bytesLess_eq, Bool.eq_iff_iff]
  simp only [Bool.not_eq_true', Bool.or_eq_false_iff, decide_eq_false_iff_not, beq_eq_false_iff_ne, decide_eq_true_eq]
  constructor
  · rintro ⟨h1, h2⟩
    rcases Std.lt_trichotomy a b with h | h | h
    · exact absurd h h1
    · exact absurd h h2
    · exact h
  · intro h
    exact ⟨fun h1 => (List.lt_asymm h h1), fun h1 => by subst h1; exact List.lt_irrefl _ h⟩
theorem okV_z : okV (⟨0, 0, ⟨#[]⟩⟩ : TValue) = true := by decide +kernel
theorem okV_cl (x : TValue) : okV (clV x) = true := by
  unfold clV
  by_cases h : okV x = true
  · rw [if_pos h]; exact h
  · rw [if_neg h]; exact okV_z
theorem clV_ok {x : TValue} (h : okV x = true) : clV x = x := if_pos h
def cmpI (a b : Int) : Int := if a < b then -1 else if b < a then 1 else 0
def cmpB (a b : ByteArray) : Int := if a.data.toList < b.data.toList then -1 else if b.data.toList < a.data.toList then 1 else 0
def cmpC (a b : TValue) : Int := if a.f0 ≠ b.f0 then cmpI a.f0 b.f0 else if a.f0 = 1 then cmpI a.f1 b.f1 else cmpB a.f2 b.f2
def cmpV (x y : TValue) : Int := cmpC (clV x) (clV y)
theorem cmp_int_eq (k : Nat) (a b : Int) : cmp_Compare_int k a b = some (cmpI a b) := by
  unfold cmp_Compare_int cmp_isNaN_int cmpI
  simp only [Option.bind_some, bne_self_eq_false, Bool.false_eq_true, if_false, GT.gt, decide_eq_true_eq]
  repeat' split
  all_goals rfl
theorem cmp_int64_eq (k : Nat) (a b : Int) : cmp_Compare_int64 k a b = some (cmpI a b) := by
  unfold cmp_Compare_int64 cmp_isNaN_int64 cmpI
  simp only [Option.bind_some, bne_self_eq_false, Bool.false_eq_true, if_false, GT.gt, decide_eq_true_eq]
  repeat' split
  all_goals rfl
theorem cmp_string_eq (k : Nat) (a b : ByteArray) : cmp_Compare_string k a b = some (cmpB a b) := by
  unfold cmp_Compare_string cmp_isNaN_string cmpB
  simp only [gtr_flip]
  simp only [Option.bind_some, beq_self_eq_true, Bool.not_true, Bool.false_eq_true, if_false, bytesLess_eq, decide_eq_true_eq]
  repeat' split
  all_goals rfl
theorem value_Compare_eq (k : Nat) (x y : TValue) : value_Compare k x y = some (cmpV x y) := by
  unfold value_Compare cmpV cmpC
  rw [value_Clean_eq, value_Clean_eq]
  simp only [Option.bind_some, cmp_int_eq, cmp_int64_eq, cmp_string_eq, bne_iff_ne, beq_iff_eq]
  repeat' split
  all_goals rfl
end Go.Proofs.YtjhnpaenhdbhpabV
