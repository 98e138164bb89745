/- Part of the proof of CachePlays: printed by programs of this repo out of the translation, and by hand. Each theorem's conditions stand in its statement. -/
import Derived.Test.YtjhnpaenhdbhpabMCachePlaysa
import Derived.Test.YtjhnpaenhdbhpabMCachePlaysb
set_option linter.unusedVariables false
set_option linter.unusedSimpArgs false
set_option maxRecDepth 100000
namespace Go.Proofs.YtjhnpaenhdbhpabV
open Go Go.RowKit
noncomputable def value_CompareRows  (k : Nat) (a0 : (List TValue)) (b1 : (List TValue)) : Option Int := (slices_CompareFunc_api_Value__value_Compare k a0 b1).bind fun y_1 => (some y_1)
noncomputable def value_CompareRows.t : List Item := [.code (bodyOf Try.f65)]
noncomputable def value_CompareRows.s (a0 : (List TValue)) (b1 : (List TValue)) : St := ⟨frOf Try.f65.ntmps 0 [(0, .p (eL 3 cValue dValue a0)), (1, .p (eL 3 cValue dValue b1))], []⟩
theorem value_CompareRows.run   {k : Nat} {a0 : (List TValue)} {b1 : (List TValue)} {r : Int} (h : value_CompareRows k a0 b1 = some r) : RunC Try.prog Try.f65 value_CompareRows.t (value_CompareRows.s a0 b1) (.p (.int .i64 r)) [] := by
  unfold value_CompareRows at h
  obtain ⟨y_1, e_2, h⟩ := bind_or h
  obtain rfl := Option.some.inj h
  exact RunC.out [.n 3, .r [(2, .call (.p (.int .i64 y_1)) [])]] (by kernel_rfl) (Obs.of (by kernel_rfl) (slices_CompareFunc_api_Value__value_Compare.spec e_2))
theorem value_CompareRows.mono   : ∀ (k k' : Nat) (a0 : (List TValue)) (b1 : (List TValue)) (r : Int), k ≤ k' → value_CompareRows k a0 b1 = some r → value_CompareRows k' a0 b1 = some r := by
  intro k k' a0 b1 r hk h
  unfold value_CompareRows at h ⊢
  obtain ⟨y_1, e_2, h⟩ := bind_or h
  refine bnd (slices_CompareFunc_api_Value__value_Compare.mono _ _ _ _ _ hk e_2) ?_
  exact h
theorem value_CompareRows.spec {k : Nat} {a0 : (List TValue)} {b1 : (List TValue)} {r : Int} (h : value_CompareRows k a0 b1 = some r) : Spec Try.prog 65 [.p (eL 3 cValue dValue a0), .p (eL 3 cValue dValue b1)] (.p (.int .i64 r)) [] :=
  spec_of mix Try.func65 (body := bodyOf Try.f65) (by kernel_rfl) (by kernel_rfl) (value_CompareRows.run h)
end Go.Proofs.YtjhnpaenhdbhpabV
set_option linter.unusedVariables false
set_option linter.unusedSimpArgs false
set_option maxRecDepth 100000
namespace Go.Proofs.YtjhnpaenhdbhpabV
open Go Go.RowKit
noncomputable def bag_Valid.p1  : Nat → (List TEntry) → (List TEntry) → Int → Int → Option Bool
  | 0, _, _, _, _ => none
  | k + 1, b0, v5, v6, v7 => if (decide (v7 < v6)) = true then (if 0 ≤ v7 ∧ v7 < ((v5).length : Int) then ((bag_entryFits k (v5.getD v7.toNat dEntry)).bind fun y_3 => (if (!y_3) = true then (some false) else (if ((v5.getD v7.toNat dEntry).f1 == 0) = true then (some false) else (if (decide (v7 > 0)) = true then (if 0 ≤ (IntKind.i64.wrap (v7 - 1)) ∧ (IntKind.i64.wrap (v7 - 1)) < ((b0).length : Int) then ((value_CompareRows k ((b0.getD (IntKind.i64.wrap (v7 - 1)).toNat dEntry).f0) ((v5.getD v7.toNat dEntry).f0)).bind fun y_9 => (if (decide (y_9 ≥ 0)) = true then (some false) else (bag_Valid.p1 k b0 v5 v6 (IntKind.i64.wrap (v7 + 1))))) else none) else (bag_Valid.p1 k b0 v5 v6 (IntKind.i64.wrap (v7 + 1))))))) else none) else (some (decide (((b0).length : Int) ≤ 4096)))
noncomputable def bag_Valid  (k : Nat) (b0 : (List TEntry)) : Option Bool := bag_Valid.p1 k b0 b0 ((b0).length : Int) 0
noncomputable def bag_Valid.t : List Item := [.code (bodyOf Try.f51)]
noncomputable def bag_Valid.s (b0 : (List TEntry)) : St := ⟨frOf Try.f51.ntmps 0 [(0, .p (eL 2 cEntry dEntry b0))], []⟩
noncomputable def bag_Valid.p1.t : List Item := nav 7 [] bag_Valid.t
noncomputable def bag_Valid.p1.s (b0 : (List TEntry)) (v5 : (List TEntry)) (v6 : Int) (v7 : Int) : St := ⟨frOf Try.f51.ntmps 0 [(0, .p (eL 2 cEntry dEntry b0)), (5, .p (eL 2 cEntry dEntry v5)), (6, .p (.int .i64 v6)), (7, .p (.int .i64 v7))], []⟩
theorem bag_Valid.p1.run   : ∀ (k : Nat) (b0 : (List TEntry)) (v5 : (List TEntry)) (v6 : Int) (v7 : Int) (r : Bool), bag_Valid.p1 k b0 v5 v6 v7 = some r → RunC Try.prog Try.f51 bag_Valid.p1.t (bag_Valid.p1.s b0 v5 v6 v7) (.p (.bool r)) [] := by
  intro k
  induction k with
  | zero => intro b0 v5 v6 v7 r h; simp [bag_Valid.p1] at h
  | succ k ih =>
    intro b0 v5 v6 v7 r h
    rw [bag_Valid.p1] at h
    rcases ite_or h with ⟨g_1, h⟩ | ⟨g_1, h⟩
    · obtain ⟨g_2, h⟩ := ite_some h
      obtain ⟨y_3, e_4, h⟩ := bind_or h
      rcases ite_or h with ⟨g_5, h⟩ | ⟨g_5, h⟩
      · obtain rfl := Option.some.inj h
        exact RunC.out [.n 1, .r [(0, .dec true)], .n 8, .r [(1, .call (.p (.bool y_3)) []), (3, .dec true)], .n 3] (by kernel_rfl) (Obs.of (by kernel_rfl) (And.intro g_1 (And.intro g_2 (And.intro (bag_entryFits.spec e_4) g_5))))
      · rcases ite_or h with ⟨g_6, h⟩ | ⟨g_6, h⟩
        · obtain rfl := Option.some.inj h
          exact RunC.out [.n 1, .r [(0, .dec true)], .n 8, .r [(1, .call (.p (.bool y_3)) []), (3, .dec false), (8, .dec true)], .n 3] (by kernel_rfl) (Obs.of (by kernel_rfl) (And.intro g_1 (And.intro g_2 (And.intro (bag_entryFits.spec e_4) (And.intro (nt g_5) g_6)))))
        · rcases ite_or h with ⟨g_7, h⟩ | ⟨g_7, h⟩
          · obtain ⟨g_8, h⟩ := ite_some h
            obtain ⟨y_9, e_10, h⟩ := bind_or h
            rcases ite_or h with ⟨g_11, h⟩ | ⟨g_11, h⟩
            · obtain rfl := Option.some.inj h
              exact RunC.out [.n 1, .r [(0, .dec true)], .n 8, .r [(1, .call (.p (.bool y_3)) []), (3, .dec false), (8, .dec false), (11, .dec true), (20, .call (.p (.int .i64 y_9)) []), (23, .dec true)], .n 3] (by kernel_rfl) (Obs.of (by kernel_rfl) (And.intro g_1 (And.intro g_2 (And.intro (bag_entryFits.spec e_4) (And.intro (nt g_5) (And.intro (nt g_6) (And.intro g_7 (And.intro g_8 (And.intro (value_CompareRows.spec e_10) g_11)))))))))
            · exact RunC.go [.n 1, .r [(0, .dec true)], .n 8, .r [(1, .call (.p (.bool y_3)) []), (3, .dec false), (8, .dec false), (11, .dec true), (20, .call (.p (.int .i64 y_9)) []), (23, .dec false)], .n 5, .k [0, 5, 6, 7]] (by kernel_rfl) (Obs.of (by kernel_rfl) (And.intro g_1 (And.intro g_2 (And.intro (bag_entryFits.spec e_4) (And.intro (nt g_5) (And.intro (nt g_6) (And.intro g_7 (And.intro g_8 (And.intro (value_CompareRows.spec e_10) (nt g_11)))))))))) (ih _ _ _ _ r h)
          · exact RunC.go [.n 1, .r [(0, .dec true)], .n 8, .r [(1, .call (.p (.bool y_3)) []), (3, .dec false), (8, .dec false), (11, .dec false)], .n 5, .k [0, 5, 6, 7]] (by kernel_rfl) (Obs.of (by kernel_rfl) (And.intro g_1 (And.intro g_2 (And.intro (bag_entryFits.spec e_4) (And.intro (nt g_5) (And.intro (nt g_6) (nt g_7))))))) (ih _ _ _ _ r h)
    · obtain rfl := Option.some.inj h
      exact RunC.out [.n 1, .r [(0, .dec false)], .n 5] (by kernel_rfl) (Obs.of (by kernel_rfl) (nt g_1))
theorem bag_Valid.run   {k : Nat} {b0 : (List TEntry)} {r : Bool} (h : bag_Valid k b0 = some r) : RunC Try.prog Try.f51 bag_Valid.t (bag_Valid.s b0) (.p (.bool r)) [] := by
  unfold bag_Valid at h
  exact RunC.go [.n 7, .k [0, 5, 6, 7]] (by kernel_rfl) (Obs.tt (by kernel_rfl)) (bag_Valid.p1.run k _ _ _ _ r h)
theorem bag_Valid.p1.mono   : ∀ (k k' : Nat) (b0 : (List TEntry)) (v5 : (List TEntry)) (v6 : Int) (v7 : Int) (r : Bool), k ≤ k' → bag_Valid.p1 k b0 v5 v6 v7 = some r → bag_Valid.p1 k' b0 v5 v6 v7 = some r := by
  intro k
  induction k with
  | zero => intro k' b0 v5 v6 v7 r hk h; simp [bag_Valid.p1] at h
  | succ k ih =>
    intro k' b0 v5 v6 v7 r hk h
    obtain ⟨k', rfl⟩ : ∃ m, k' = m + 1 := ⟨k' - 1, by omega⟩
    replace hk := Nat.le_of_succ_le_succ hk
    rw [bag_Valid.p1] at h ⊢
    rcases ite_or h with ⟨g_1, h⟩ | ⟨g_1, h⟩
    · refine itp g_1 ?_
      obtain ⟨g_2, h⟩ := ite_some h
      refine itp g_2 ?_
      obtain ⟨y_3, e_4, h⟩ := bind_or h
      refine bnd (bag_entryFits.mono _ _ _ _ hk e_4) ?_
      rcases ite_or h with ⟨g_5, h⟩ | ⟨g_5, h⟩
      · refine itp g_5 ?_
        exact h
      · refine itn g_5 ?_
        rcases ite_or h with ⟨g_6, h⟩ | ⟨g_6, h⟩
        · refine itp g_6 ?_
          exact h
        · refine itn g_6 ?_
          rcases ite_or h with ⟨g_7, h⟩ | ⟨g_7, h⟩
          · refine itp g_7 ?_
            obtain ⟨g_8, h⟩ := ite_some h
            refine itp g_8 ?_
            obtain ⟨y_9, e_10, h⟩ := bind_or h
            refine bnd (value_CompareRows.mono _ _ _ _ _ hk e_10) ?_
            rcases ite_or h with ⟨g_11, h⟩ | ⟨g_11, h⟩
            · refine itp g_11 ?_
              exact h
            · refine itn g_11 ?_
              exact ih _ _ _ _ _ r hk h
          · refine itn g_7 ?_
            exact ih _ _ _ _ _ r hk h
    · refine itn g_1 ?_
      exact h
theorem bag_Valid.mono   : ∀ (k k' : Nat) (b0 : (List TEntry)) (r : Bool), k ≤ k' → bag_Valid k b0 = some r → bag_Valid k' b0 = some r := by
  intro k k' b0 r hk h
  unfold bag_Valid at h ⊢
  exact bag_Valid.p1.mono _ _ _ _ _ _ r hk h
theorem bag_Valid.spec {k : Nat} {b0 : (List TEntry)} {r : Bool} (h : bag_Valid k b0 = some r) : Spec Try.prog 51 [.p (eL 2 cEntry dEntry b0)] (.p (.bool r)) [] :=
  spec_of mix Try.func51 (body := bodyOf Try.f51) (by kernel_rfl) (by kernel_rfl) (bag_Valid.run h)
end Go.Proofs.YtjhnpaenhdbhpabV
set_option linter.unusedVariables false
set_option linter.unusedSimpArgs false
set_option maxRecDepth 100000
namespace Go.Proofs.YtjhnpaenhdbhpabV
open Go Go.RowKit
noncomputable def cache_inDays  (k : Nat) (n0 : Int) : Option Bool := if (decide (n0 ≥ 0)) = true then (some (decide (n0 ≤ 1048576))) else (some false)
noncomputable def cache_inDays.t : List Item := [.code (bodyOf Try.f49)]
noncomputable def cache_inDays.s (n0 : Int) : St := ⟨frOf Try.f49.ntmps 0 [(0, .p (.int .i64 n0))], []⟩
theorem cache_inDays.run   {k : Nat} {n0 : Int} {r : Bool} (h : cache_inDays k n0 = some r) : RunC Try.prog Try.f49 cache_inDays.t (cache_inDays.s n0) (.p (.bool r)) [] := by
  unfold cache_inDays at h
  rcases ite_or h with ⟨g_1, h⟩ | ⟨g_1, h⟩
  · obtain rfl := Option.some.inj h
    exact RunC.out [.n 3, .r [(2, .dec true)]] (by kernel_rfl) (Obs.of (by kernel_rfl) g_1)
  · obtain rfl := Option.some.inj h
    exact RunC.out [.n 3, .r [(2, .dec false)]] (by kernel_rfl) (Obs.of (by kernel_rfl) (nt g_1))
theorem cache_inDays.mono   : ∀ (k k' : Nat) (n0 : Int) (r : Bool), k ≤ k' → cache_inDays k n0 = some r → cache_inDays k' n0 = some r := by
  intro k k' n0 r hk h
  unfold cache_inDays at h ⊢
  rcases ite_or h with ⟨g_1, h⟩ | ⟨g_1, h⟩
  · refine itp g_1 ?_
    exact h
  · refine itn g_1 ?_
    exact h
theorem cache_inDays.spec {k : Nat} {n0 : Int} {r : Bool} (h : cache_inDays k n0 = some r) : Spec Try.prog 49 [.p (.int .i64 n0)] (.p (.bool r)) [] :=
  spec_of mix Try.func49 (body := bodyOf Try.f49) (by kernel_rfl) (by kernel_rfl) (cache_inDays.run h)
end Go.Proofs.YtjhnpaenhdbhpabV
set_option linter.unusedVariables false
set_option linter.unusedSimpArgs false
set_option maxRecDepth 100000
namespace Go.Proofs.YtjhnpaenhdbhpabV
open Go Go.RowKit
noncomputable def cache_Valid.p1  : Nat → (List TCached) → Int → Option Bool
  | 0, _, _ => none
  | k + 1, s0, i3 => if (decide (i3 < ((s0).length : Int))) = true then (if 0 ≤ i3 ∧ i3 < ((s0).length : Int) then ((value_Valid k ((s0.getD i3.toNat dCached).f0)).bind fun y_4 => (if (!y_4) = true then (some false) else (if (decide (i3 > 0)) = true then (if 0 ≤ (IntKind.i64.wrap (i3 - 1)) ∧ (IntKind.i64.wrap (i3 - 1)) < ((s0).length : Int) then ((value_Compare k ((s0.getD (IntKind.i64.wrap (i3 - 1)).toNat dCached).f0) ((s0.getD i3.toNat dCached).f0)).bind fun y_9 => (if (decide (y_9 ≥ 0)) = true then (some false) else ((bag_Valid k ((s0.getD i3.toNat dCached).f1)).bind fun y_12 => (if (!y_12) = true then (some false) else ((cache_inDays k ((s0.getD i3.toNat dCached).f2)).bind fun y_15 => (if (!y_15) = true then (some false) else (cache_Valid.p1 k s0 (IntKind.i64.wrap (i3 + 1))))))))) else none) else ((bag_Valid k ((s0.getD i3.toNat dCached).f1)).bind fun y_18 => (if (!y_18) = true then (some false) else ((cache_inDays k ((s0.getD i3.toNat dCached).f2)).bind fun y_21 => (if (!y_21) = true then (some false) else (cache_Valid.p1 k s0 (IntKind.i64.wrap (i3 + 1)))))))))) else none) else (some true)
noncomputable def cache_Valid  (k : Nat) (s0 : (List TCached)) : Option Bool := if (decide (((s0).length : Int) > 16)) = true then (some false) else (cache_Valid.p1 k s0 0)
noncomputable def cache_Valid.t : List Item := [.code (bodyOf Try.f27)]
noncomputable def cache_Valid.s (s0 : (List TCached)) : St := ⟨frOf Try.f27.ntmps 0 [(0, .p (eL 5 cCached dCached s0))], []⟩
noncomputable def cache_Valid.p1.t : List Item := nav 12 [false] cache_Valid.t
noncomputable def cache_Valid.p1.s (s0 : (List TCached)) (i3 : Int) : St := ⟨frOf Try.f27.ntmps 0 [(0, .p (eL 5 cCached dCached s0)), (3, .p (.int .i64 i3))], []⟩
theorem cache_Valid.p1.run   : ∀ (k : Nat) (s0 : (List TCached)) (i3 : Int) (r : Bool), cache_Valid.p1 k s0 i3 = some r → RunC Try.prog Try.f27 cache_Valid.p1.t (cache_Valid.p1.s s0 i3) (.p (.bool r)) [] := by
  intro k
  induction k with
  | zero => intro s0 i3 r h; simp [cache_Valid.p1] at h
  | succ k ih =>
    intro s0 i3 r h
    rw [cache_Valid.p1] at h
    rcases ite_or h with ⟨g_2, h⟩ | ⟨g_2, h⟩
    · obtain ⟨g_3, h⟩ := ite_some h
      obtain ⟨y_4, e_5, h⟩ := bind_or h
      rcases ite_or h with ⟨g_6, h⟩ | ⟨g_6, h⟩
      · obtain rfl := Option.some.inj h
        exact RunC.out [.n 2, .r [(3, .dec true)], .n 7, .r [(2, .call (.p (.bool y_4)) []), (4, .dec true)], .n 3] (by kernel_rfl) (Obs.of (by kernel_rfl) (And.intro g_2 (And.intro g_3 (And.intro (value_Valid.spec e_5) g_6))))
      · rcases ite_or h with ⟨g_7, h⟩ | ⟨g_7, h⟩
        · obtain ⟨g_8, h⟩ := ite_some h
          obtain ⟨y_9, e_10, h⟩ := bind_or h
          rcases ite_or h with ⟨g_11, h⟩ | ⟨g_11, h⟩
          · obtain rfl := Option.some.inj h
            exact RunC.out [.n 2, .r [(3, .dec true)], .n 7, .r [(2, .call (.p (.bool y_4)) []), (4, .dec false), (7, .dec true), (16, .call (.p (.int .i64 y_9)) []), (20, .dec true)], .n 3] (by kernel_rfl) (Obs.of (by kernel_rfl) (And.intro g_2 (And.intro g_3 (And.intro (value_Valid.spec e_5) (And.intro (nt g_6) (And.intro g_7 (And.intro g_8 (And.intro (value_Compare.spec e_10) g_11))))))))
          · obtain ⟨y_12, e_13, h⟩ := bind_or h
            rcases ite_or h with ⟨g_14, h⟩ | ⟨g_14, h⟩
            · obtain rfl := Option.some.inj h
              exact RunC.out [.n 2, .r [(3, .dec true)], .n 7, .r [(2, .call (.p (.bool y_4)) []), (4, .dec false), (7, .dec true), (16, .call (.p (.int .i64 y_9)) []), (20, .dec false), (23, .call (.p (.bool y_12)) []), (26, .dec true)], .n 3] (by kernel_rfl) (Obs.of (by kernel_rfl) (And.intro g_2 (And.intro g_3 (And.intro (value_Valid.spec e_5) (And.intro (nt g_6) (And.intro g_7 (And.intro g_8 (And.intro (value_Compare.spec e_10) (And.intro (nt g_11) (And.intro (bag_Valid.spec e_13) g_14))))))))))
            · obtain ⟨y_15, e_16, h⟩ := bind_or h
              rcases ite_or h with ⟨g_17, h⟩ | ⟨g_17, h⟩
              · obtain rfl := Option.some.inj h
                exact RunC.out [.n 2, .r [(3, .dec true)], .n 7, .r [(2, .call (.p (.bool y_4)) []), (4, .dec false), (7, .dec true), (16, .call (.p (.int .i64 y_9)) []), (20, .dec false), (23, .call (.p (.bool y_12)) []), (26, .dec false), (29, .call (.p (.bool y_15)) []), (31, .dec true)], .n 3] (by kernel_rfl) (Obs.of (by kernel_rfl) (And.intro g_2 (And.intro g_3 (And.intro (value_Valid.spec e_5) (And.intro (nt g_6) (And.intro g_7 (And.intro g_8 (And.intro (value_Compare.spec e_10) (And.intro (nt g_11) (And.intro (bag_Valid.spec e_13) (And.intro (nt g_14) (And.intro (cache_inDays.spec e_16) g_17))))))))))))
              · exact RunC.go [.n 2, .r [(3, .dec true)], .n 7, .r [(2, .call (.p (.bool y_4)) []), (4, .dec false), (7, .dec true), (16, .call (.p (.int .i64 y_9)) []), (20, .dec false), (23, .call (.p (.bool y_12)) []), (26, .dec false), (29, .call (.p (.bool y_15)) []), (31, .dec false)], .n 5, .k [0, 3]] (by kernel_rfl) (Obs.of (by kernel_rfl) (And.intro g_2 (And.intro g_3 (And.intro (value_Valid.spec e_5) (And.intro (nt g_6) (And.intro g_7 (And.intro g_8 (And.intro (value_Compare.spec e_10) (And.intro (nt g_11) (And.intro (bag_Valid.spec e_13) (And.intro (nt g_14) (And.intro (cache_inDays.spec e_16) (nt g_17))))))))))))) (ih _ _ r h)
        · obtain ⟨y_18, e_19, h⟩ := bind_or h
          rcases ite_or h with ⟨g_20, h⟩ | ⟨g_20, h⟩
          · obtain rfl := Option.some.inj h
            exact RunC.out [.n 2, .r [(3, .dec true)], .n 7, .r [(2, .call (.p (.bool y_4)) []), (4, .dec false), (7, .dec false), (23, .call (.p (.bool y_18)) []), (26, .dec true)], .n 3] (by kernel_rfl) (Obs.of (by kernel_rfl) (And.intro g_2 (And.intro g_3 (And.intro (value_Valid.spec e_5) (And.intro (nt g_6) (And.intro (nt g_7) (And.intro (bag_Valid.spec e_19) g_20)))))))
          · obtain ⟨y_21, e_22, h⟩ := bind_or h
            rcases ite_or h with ⟨g_23, h⟩ | ⟨g_23, h⟩
            · obtain rfl := Option.some.inj h
              exact RunC.out [.n 2, .r [(3, .dec true)], .n 7, .r [(2, .call (.p (.bool y_4)) []), (4, .dec false), (7, .dec false), (23, .call (.p (.bool y_18)) []), (26, .dec false), (29, .call (.p (.bool y_21)) []), (31, .dec true)], .n 3] (by kernel_rfl) (Obs.of (by kernel_rfl) (And.intro g_2 (And.intro g_3 (And.intro (value_Valid.spec e_5) (And.intro (nt g_6) (And.intro (nt g_7) (And.intro (bag_Valid.spec e_19) (And.intro (nt g_20) (And.intro (cache_inDays.spec e_22) g_23)))))))))
            · exact RunC.go [.n 2, .r [(3, .dec true)], .n 7, .r [(2, .call (.p (.bool y_4)) []), (4, .dec false), (7, .dec false), (23, .call (.p (.bool y_18)) []), (26, .dec false), (29, .call (.p (.bool y_21)) []), (31, .dec false)], .n 5, .k [0, 3]] (by kernel_rfl) (Obs.of (by kernel_rfl) (And.intro g_2 (And.intro g_3 (And.intro (value_Valid.spec e_5) (And.intro (nt g_6) (And.intro (nt g_7) (And.intro (bag_Valid.spec e_19) (And.intro (nt g_20) (And.intro (cache_inDays.spec e_22) (nt g_23)))))))))) (ih _ _ r h)
    · obtain rfl := Option.some.inj h
      exact RunC.out [.n 2, .r [(3, .dec false)], .n 4] (by kernel_rfl) (Obs.of (by kernel_rfl) (nt g_2))
theorem cache_Valid.run   {k : Nat} {s0 : (List TCached)} {r : Bool} (h : cache_Valid k s0 = some r) : RunC Try.prog Try.f27 cache_Valid.t (cache_Valid.s s0) (.p (.bool r)) [] := by
  unfold cache_Valid at h
  rcases ite_or h with ⟨g_1, h⟩ | ⟨g_1, h⟩
  · obtain rfl := Option.some.inj h
    exact RunC.out [.n 4, .r [(2, .dec true)], .n 3] (by kernel_rfl) (Obs.of (by kernel_rfl) g_1)
  · exact RunC.go [.n 4, .r [(2, .dec false)], .n 7, .k [0, 3]] (by kernel_rfl) (Obs.of (by kernel_rfl) (nt g_1)) (cache_Valid.p1.run k _ _ r h)
theorem cache_Valid.p1.mono   : ∀ (k k' : Nat) (s0 : (List TCached)) (i3 : Int) (r : Bool), k ≤ k' → cache_Valid.p1 k s0 i3 = some r → cache_Valid.p1 k' s0 i3 = some r := by
  intro k
  induction k with
  | zero => intro k' s0 i3 r hk h; simp [cache_Valid.p1] at h
  | succ k ih =>
    intro k' s0 i3 r hk h
    obtain ⟨k', rfl⟩ : ∃ m, k' = m + 1 := ⟨k' - 1, by omega⟩
    replace hk := Nat.le_of_succ_le_succ hk
    rw [cache_Valid.p1] at h ⊢
    rcases ite_or h with ⟨g_2, h⟩ | ⟨g_2, h⟩
    · refine itp g_2 ?_
      obtain ⟨g_3, h⟩ := ite_some h
      refine itp g_3 ?_
      obtain ⟨y_4, e_5, h⟩ := bind_or h
      refine bnd (value_Valid.mono _ _ _ _ hk e_5) ?_
      rcases ite_or h with ⟨g_6, h⟩ | ⟨g_6, h⟩
      · refine itp g_6 ?_
        exact h
      · refine itn g_6 ?_
        rcases ite_or h with ⟨g_7, h⟩ | ⟨g_7, h⟩
        · refine itp g_7 ?_
          obtain ⟨g_8, h⟩ := ite_some h
          refine itp g_8 ?_
          obtain ⟨y_9, e_10, h⟩ := bind_or h
          refine bnd (value_Compare.mono _ _ _ _ _ hk e_10) ?_
          rcases ite_or h with ⟨g_11, h⟩ | ⟨g_11, h⟩
          · refine itp g_11 ?_
            exact h
          · refine itn g_11 ?_
            obtain ⟨y_12, e_13, h⟩ := bind_or h
            refine bnd (bag_Valid.mono _ _ _ _ hk e_13) ?_
            rcases ite_or h with ⟨g_14, h⟩ | ⟨g_14, h⟩
            · refine itp g_14 ?_
              exact h
            · refine itn g_14 ?_
              obtain ⟨y_15, e_16, h⟩ := bind_or h
              refine bnd (cache_inDays.mono _ _ _ _ hk e_16) ?_
              rcases ite_or h with ⟨g_17, h⟩ | ⟨g_17, h⟩
              · refine itp g_17 ?_
                exact h
              · refine itn g_17 ?_
                exact ih _ _ _ r hk h
        · refine itn g_7 ?_
          obtain ⟨y_18, e_19, h⟩ := bind_or h
          refine bnd (bag_Valid.mono _ _ _ _ hk e_19) ?_
          rcases ite_or h with ⟨g_20, h⟩ | ⟨g_20, h⟩
          · refine itp g_20 ?_
            exact h
          · refine itn g_20 ?_
            obtain ⟨y_21, e_22, h⟩ := bind_or h
            refine bnd (cache_inDays.mono _ _ _ _ hk e_22) ?_
            rcases ite_or h with ⟨g_23, h⟩ | ⟨g_23, h⟩
            · refine itp g_23 ?_
              exact h
            · refine itn g_23 ?_
              exact ih _ _ _ r hk h
    · refine itn g_2 ?_
      exact h
theorem cache_Valid.mono   : ∀ (k k' : Nat) (s0 : (List TCached)) (r : Bool), k ≤ k' → cache_Valid k s0 = some r → cache_Valid k' s0 = some r := by
  intro k k' s0 r hk h
  unfold cache_Valid at h ⊢
  rcases ite_or h with ⟨g_1, h⟩ | ⟨g_1, h⟩
  · refine itp g_1 ?_
    exact h
  · refine itn g_1 ?_
    exact cache_Valid.p1.mono _ _ _ _ r hk h
theorem cache_Valid.spec {k : Nat} {s0 : (List TCached)} {r : Bool} (h : cache_Valid k s0 = some r) : Spec Try.prog 27 [.p (eL 5 cCached dCached s0)] (.p (.bool r)) [] :=
  spec_of mix Try.func27 (body := bodyOf Try.f27) (by kernel_rfl) (by kernel_rfl) (cache_Valid.run h)
end Go.Proofs.YtjhnpaenhdbhpabV
set_option linter.unusedVariables false
set_option linter.unusedSimpArgs false
set_option maxRecDepth 100000
namespace Go.Proofs.YtjhnpaenhdbhpabV
open Go Go.RowKit
noncomputable def cache_copied.p1  : Nat → (List TEntry) → Int → (List TEntry) → Option (List TEntry)
  | 0, _, _, _ => none
  | k + 1, l0, i4, out3 => if (decide (i4 < ((l0).length : Int))) = true then (if 0 ≤ i4 ∧ i4 < ((l0).length : Int) then (if ((l0.getD i4.toNat dEntry).f0).length ≤ maxLen ∧ ((l0.getD i4.toNat dEntry).f0).length * 32 ≤ 140737488355328 then (if (out3).length + ([(l0.getD i4.toNat dEntry)]).length ≤ maxLen ∧ ((out3).length + ([(l0.getD i4.toNat dEntry)]).length) * 32 ≤ 140737488355328 then (cache_copied.p1 k l0 (IntKind.i64.wrap (i4 + 1)) (out3 ++ ([(l0.getD i4.toNat dEntry)]))) else none) else none) else none) else (some out3)
noncomputable def cache_copied  (k : Nat) (l0 : (List TEntry)) : Option (List TEntry) := cache_copied.p1 k l0 0 ([] : List TEntry)
noncomputable def cache_copied.t : List Item := [.code (bodyOf Try.f39)]
noncomputable def cache_copied.s (l0 : (List TEntry)) : St := ⟨frOf Try.f39.ntmps 0 [(0, .p (eL 2 cEntry dEntry l0))], []⟩
noncomputable def cache_copied.p1.t : List Item := nav 9 [] cache_copied.t
noncomputable def cache_copied.p1.s (l0 : (List TEntry)) (i4 : Int) (out3 : (List TEntry)) : St := ⟨frOf Try.f39.ntmps 0 [(0, .p (eL 2 cEntry dEntry l0)), (3, .sref 0 36 2 (out3).length), (4, .p (.int .i64 i4))], [(oL true 36 2 cEntry dEntry out3)]⟩
theorem cache_copied.p1.run   : ∀ (k : Nat) (l0 : (List TEntry)) (i4 : Int) (out3 : (List TEntry)) (r : (List TEntry)), cache_copied.p1 k l0 i4 out3 = some r → RunC Try.prog Try.f39 cache_copied.p1.t (cache_copied.p1.s l0 i4 out3) (.sref 0 36 2 (r).length) [(oL true 36 2 cEntry dEntry (r))] := by
  intro k
  induction k with
  | zero => intro l0 i4 out3 r h; simp [cache_copied.p1] at h
  | succ k ih =>
    intro l0 i4 out3 r h
    rw [cache_copied.p1] at h
    rcases ite_or h with ⟨g_1, h⟩ | ⟨g_1, h⟩
    · obtain ⟨g_2, h⟩ := ite_some h
      obtain ⟨g_3, h⟩ := ite_some h
      obtain ⟨g_4, h⟩ := ite_some h
      exact RunC.go [.n 2, .r [(3, .dec true)], .n 4, .r [(13, .obj (oL true 36 2 cEntry dEntry [(l0.getD i4.toNat dEntry)])), (14, .obj (oL true 36 2 cEntry dEntry (out3 ++ ([(l0.getD i4.toNat dEntry)]))))], .n 3, .k [0, 3, 4]] (by kernel_rfl) (Obs.of (by kernel_rfl) (And.intro g_1 (And.intro g_2 (And.intro g_3 (And.intro g_2 (And.intro (le_one 36 2 cEntry dEntry (l0.getD i4.toNat dEntry)) (And.intro g_4 (le_app 36 2 cEntry dEntry out3 ([(l0.getD i4.toNat dEntry)]))))))))) (ih _ _ _ r h)
    · obtain rfl := Option.some.inj h
      exact RunC.out [.n 2, .r [(3, .dec false)], .n 4] (by kernel_rfl) (Obs.of (by kernel_rfl) (nt g_1))
theorem cache_copied.run   {k : Nat} {l0 : (List TEntry)} {r : (List TEntry)} (h : cache_copied k l0 = some r) : RunC Try.prog Try.f39 cache_copied.t (cache_copied.s l0) (.sref 0 36 2 (r).length) [(oL true 36 2 cEntry dEntry (r))] := by
  unfold cache_copied at h
  exact RunC.go [.n 1, .r [(0, .obj (oL true 36 2 cEntry dEntry ([] : List TEntry)))], .n 1, .r [(0, .obj (oL true 36 2 cEntry dEntry ([] : List TEntry)))], .n 5, .k [0, 3, 4]] (by kernel_rfl) (Obs.of (by kernel_rfl) (And.intro (le_nil 36 2 cEntry dEntry) (le_nil 36 2 cEntry dEntry))) (cache_copied.p1.run k _ _ _ r h)
theorem cache_copied.p1.mono   : ∀ (k k' : Nat) (l0 : (List TEntry)) (i4 : Int) (out3 : (List TEntry)) (r : (List TEntry)), k ≤ k' → cache_copied.p1 k l0 i4 out3 = some r → cache_copied.p1 k' l0 i4 out3 = some r := by
  intro k
  induction k with
  | zero => intro k' l0 i4 out3 r hk h; simp [cache_copied.p1] at h
  | succ k ih =>
    intro k' l0 i4 out3 r hk h
    obtain ⟨k', rfl⟩ : ∃ m, k' = m + 1 := ⟨k' - 1, by omega⟩
    replace hk := Nat.le_of_succ_le_succ hk
    rw [cache_copied.p1] at h ⊢
    rcases ite_or h with ⟨g_1, h⟩ | ⟨g_1, h⟩
    · refine itp g_1 ?_
      obtain ⟨g_2, h⟩ := ite_some h
      refine itp g_2 ?_
      obtain ⟨g_3, h⟩ := ite_some h
      refine itp g_3 ?_
      obtain ⟨g_4, h⟩ := ite_some h
      refine itp g_4 ?_
      exact ih _ _ _ _ r hk h
    · refine itn g_1 ?_
      exact h
theorem cache_copied.mono   : ∀ (k k' : Nat) (l0 : (List TEntry)) (r : (List TEntry)), k ≤ k' → cache_copied k l0 = some r → cache_copied k' l0 = some r := by
  intro k k' l0 r hk h
  unfold cache_copied at h ⊢
  exact cache_copied.p1.mono _ _ _ _ _ r hk h
theorem cache_copied.spec {k : Nat} {l0 : (List TEntry)} {r : (List TEntry)} (h : cache_copied k l0 = some r) : Spec Try.prog 39 [.p (eL 2 cEntry dEntry l0)] (.sref 0 36 2 (r).length) [(oL true 36 2 cEntry dEntry (r))] :=
  spec_of mix Try.func39 (body := bodyOf Try.f39) (by kernel_rfl) (by kernel_rfl) (cache_copied.run h)
end Go.Proofs.YtjhnpaenhdbhpabV
set_option linter.unusedVariables false
set_option linter.unusedSimpArgs false
set_option maxRecDepth 100000
namespace Go.Proofs.YtjhnpaenhdbhpabV
open Go Go.RowKit
noncomputable def cache_duplicate  (k : Nat) (x0 : TCached) : Option TCached := (cache_copied k x0.f1).bind fun y_1 => (some (TCached.mk x0.f0 y_1 x0.f2))
noncomputable def cache_duplicate.t : List Item := [.code (bodyOf Try.f48)]
noncomputable def cache_duplicate.s (x0 : TCached) : St := ⟨frOf Try.f48.ntmps 0 [(0, .agg ((cCached x0).map .p))], []⟩
theorem cache_duplicate.run   {k : Nat} {x0 : TCached} {r : TCached} (h : cache_duplicate k x0 = some r) : RunC Try.prog Try.f48 cache_duplicate.t (cache_duplicate.s x0) (.agg ((cCached r).map .p)) [] := by
  unfold cache_duplicate at h
  obtain ⟨y_1, e_2, h⟩ := bind_or h
  obtain rfl := Option.some.inj h
  exact RunC.out [.n 3, .r [(2, .call (.sref 0 36 2 (y_1).length) [(oL true 36 2 cEntry dEntry y_1)])], .n 2] (by kernel_rfl) (Obs.of (by kernel_rfl) (cache_copied.spec e_2))
theorem cache_duplicate.mono   : ∀ (k k' : Nat) (x0 : TCached) (r : TCached), k ≤ k' → cache_duplicate k x0 = some r → cache_duplicate k' x0 = some r := by
  intro k k' x0 r hk h
  unfold cache_duplicate at h ⊢
  obtain ⟨y_1, e_2, h⟩ := bind_or h
  refine bnd (cache_copied.mono _ _ _ _ hk e_2) ?_
  exact h
theorem cache_duplicate.spec {k : Nat} {x0 : TCached} {r : TCached} (h : cache_duplicate k x0 = some r) : Spec Try.prog 48 [.agg ((cCached x0).map .p)] (.agg ((cCached r).map .p)) [] :=
  spec_of mix Try.func48 (body := bodyOf Try.f48) (by kernel_rfl) (by kernel_rfl) (cache_duplicate.run h)
end Go.Proofs.YtjhnpaenhdbhpabV
set_option linter.unusedVariables false
set_option linter.unusedSimpArgs false
set_option maxRecDepth 100000
namespace Go.Proofs.YtjhnpaenhdbhpabV
open Go Go.RowKit
noncomputable def cache_Expire.p1  : Nat → (List TCached) → Int → Int → TCache → (List TCached) → Option (List TCached)
  | 0, _, _, _, _, _ => none
  | k + 1, s1, day2, i8, c3b, out7 => if (decide (i8 < ((s1).length : Int))) = true then (if 0 ≤ i8 ∧ i8 < ((s1).length : Int) then (if (decide (day2 ≥ (s1.getD i8.toNat dCached).f2)) = true then (if (decide (day2 < (IntKind.i64.wrap ((s1.getD i8.toNat dCached).f2 + c3b.f3)))) = true then ((cache_duplicate k (s1.getD i8.toNat dCached)).bind fun y_14 => (if (out7).length + ([y_14]).length ≤ maxLen ∧ ((out7).length + ([y_14]).length) * 64 ≤ 140737488355328 then (cache_Expire.p1 k s1 day2 (IntKind.i64.wrap (i8 + 1)) c3b (out7 ++ ([y_14]))) else none)) else (cache_Expire.p1 k s1 day2 (IntKind.i64.wrap (i8 + 1)) c3b out7)) else (cache_Expire.p1 k s1 day2 (IntKind.i64.wrap (i8 + 1)) c3b out7)) else none) else (some out7)
noncomputable def cache_Expire  (k : Nat) (c0 : TCache) (s1 : (List TCached)) (day2 : Int) : Option (List TCached) := (cache_Valid k s1).bind fun y_1 => (if (!y_1) = true then (some ([] : List TCached)) else ((cache_inDays k c0.f3).bind fun y_4 => (if (!y_4) = true then (some ([] : List TCached)) else ((cache_inDays k day2).bind fun y_7 => (if (!y_7) = true then (some ([] : List TCached)) else (cache_Expire.p1 k s1 day2 0 c0 ([] : List TCached)))))))
noncomputable def cache_Expire.t : List Item := [.code (bodyOf Try.f25)]
noncomputable def cache_Expire.s (c0 : TCache) (s1 : (List TCached)) (day2 : Int) : St := ⟨frOf Try.f25.ntmps 0 [(0, .agg ((cCache c0).map .p)), (1, .p (eL 5 cCached dCached s1)), (2, .p (.int .i64 day2))], []⟩
noncomputable def cache_Expire.p1.t : List Item := nav 14 [false] cache_Expire.t
noncomputable def cache_Expire.p1.s (s1 : (List TCached)) (day2 : Int) (i8 : Int) (c3b : TCache) (out7 : (List TCached)) : St := ⟨frOf Try.f25.ntmps 0 [(1, .p (eL 5 cCached dCached s1)), (2, .p (.int .i64 day2)), (3, .ptr 0 0 0), (7, .sref 1 46 5 (out7).length), (8, .p (.int .i64 i8))], [.box ((cCache c3b).map .p), (oL true 46 5 cCached dCached out7)]⟩
theorem cache_Expire.p1.run   : ∀ (k : Nat) (s1 : (List TCached)) (day2 : Int) (i8 : Int) (c3b : TCache) (out7 : (List TCached)) (r : (List TCached)), cache_Expire.p1 k s1 day2 i8 c3b out7 = some r → RunC Try.prog Try.f25 cache_Expire.p1.t (cache_Expire.p1.s s1 day2 i8 c3b out7) (.sref 0 46 5 (r).length) [(oL true 46 5 cCached dCached (r))] := by
  intro k
  induction k with
  | zero => intro s1 day2 i8 c3b out7 r h; simp [cache_Expire.p1] at h
  | succ k ih =>
    intro s1 day2 i8 c3b out7 r h
    rw [cache_Expire.p1] at h
    rcases ite_or h with ⟨g_10, h⟩ | ⟨g_10, h⟩
    · obtain ⟨g_11, h⟩ := ite_some h
      rcases ite_or h with ⟨g_12, h⟩ | ⟨g_12, h⟩
      · rcases ite_or h with ⟨g_13, h⟩ | ⟨g_13, h⟩
        · obtain ⟨y_14, e_15, h⟩ := bind_or h
          obtain ⟨g_16, h⟩ := ite_some h
          exact RunC.go [.n 2, .r [(3, .dec true)], .n 5, .r [(7, .dec true), (18, .dec true)], .n 1, .r [(5, .call (.agg ((cCached y_14).map .p)) []), (6, .obj (oL true 46 5 cCached dCached [y_14])), (7, .obj (oL true 46 5 cCached dCached (out7 ++ ([y_14]))))], .n 3, .k [1, 2, 3, 7, 8]] (by kernel_rfl) (Obs.of (by kernel_rfl) (And.intro g_10 (And.intro g_11 (And.intro g_12 (And.intro g_11 (And.intro g_13 (And.intro g_11 (And.intro (cache_duplicate.spec e_15) (And.intro (le_one 46 5 cCached dCached y_14) (And.intro g_16 (le_app 46 5 cCached dCached out7 ([y_14])))))))))))) (ih _ _ _ _ _ r h)
        · exact RunC.go [.n 2, .r [(3, .dec true)], .n 5, .r [(7, .dec true), (18, .dec false)], .n 5, .k [1, 2, 3, 7, 8]] (by kernel_rfl) (Obs.of (by kernel_rfl) (And.intro g_10 (And.intro g_11 (And.intro g_12 (And.intro g_11 (nt g_13)))))) (ih _ _ _ _ _ r h)
      · exact RunC.go [.n 2, .r [(3, .dec true)], .n 5, .r [(7, .dec false)], .n 5, .k [1, 2, 3, 7, 8]] (by kernel_rfl) (Obs.of (by kernel_rfl) (And.intro g_10 (And.intro g_11 (nt g_12)))) (ih _ _ _ _ _ r h)
    · obtain rfl := Option.some.inj h
      exact RunC.out [.n 2, .r [(3, .dec false)], .n 4] (by kernel_rfl) (Obs.of (by kernel_rfl) (nt g_10))
theorem cache_Expire.run   {k : Nat} {c0 : TCache} {s1 : (List TCached)} {day2 : Int} {r : (List TCached)} (h : cache_Expire k c0 s1 day2 = some r) : RunC Try.prog Try.f25 cache_Expire.t (cache_Expire.s c0 s1 day2) (.sref 0 46 5 (r).length) [(oL true 46 5 cCached dCached (r))] := by
  unfold cache_Expire at h
  obtain ⟨y_1, e_2, h⟩ := bind_or h
  rcases ite_or h with ⟨g_3, h⟩ | ⟨g_3, h⟩
  · obtain rfl := Option.some.inj h
    exact RunC.out [.n 1, .r [(1, .obj (oL true 46 5 cCached dCached ([] : List TCached)))], .n 2, .r [(1, .call (.p (.bool y_1)) []), (3, .dec true)], .n 2, .r [(0, .obj (oL true 46 5 cCached dCached ([] : List TCached)))]] (by kernel_rfl) (Obs.of (by kernel_rfl) (And.intro (le_nil 46 5 cCached dCached) (And.intro (cache_Valid.spec e_2) (And.intro g_3 (le_nil 46 5 cCached dCached)))))
  · obtain ⟨y_4, e_5, h⟩ := bind_or h
    rcases ite_or h with ⟨g_6, h⟩ | ⟨g_6, h⟩
    · obtain rfl := Option.some.inj h
      exact RunC.out [.n 1, .r [(1, .obj (oL true 46 5 cCached dCached ([] : List TCached)))], .n 2, .r [(1, .call (.p (.bool y_1)) []), (3, .dec false), (6, .call (.p (.bool y_4)) []), (9, .dec true)], .n 2, .r [(0, .obj (oL true 46 5 cCached dCached ([] : List TCached)))]] (by kernel_rfl) (Obs.of (by kernel_rfl) (And.intro (le_nil 46 5 cCached dCached) (And.intro (cache_Valid.spec e_2) (And.intro (nt g_3) (And.intro (cache_inDays.spec e_5) (And.intro g_6 (le_nil 46 5 cCached dCached)))))))
    · obtain ⟨y_7, e_8, h⟩ := bind_or h
      rcases ite_or h with ⟨g_9, h⟩ | ⟨g_9, h⟩
      · obtain rfl := Option.some.inj h
        exact RunC.out [.n 1, .r [(1, .obj (oL true 46 5 cCached dCached ([] : List TCached)))], .n 2, .r [(1, .call (.p (.bool y_1)) []), (3, .dec false), (6, .call (.p (.bool y_4)) []), (9, .dec false), (11, .call (.p (.bool y_7)) []), (13, .dec true)], .n 2, .r [(0, .obj (oL true 46 5 cCached dCached ([] : List TCached)))]] (by kernel_rfl) (Obs.of (by kernel_rfl) (And.intro (le_nil 46 5 cCached dCached) (And.intro (cache_Valid.spec e_2) (And.intro (nt g_3) (And.intro (cache_inDays.spec e_5) (And.intro (nt g_6) (And.intro (cache_inDays.spec e_8) (And.intro g_9 (le_nil 46 5 cCached dCached)))))))))
      · exact RunC.go [.n 1, .r [(1, .obj (oL true 46 5 cCached dCached ([] : List TCached)))], .n 2, .r [(1, .call (.p (.bool y_1)) []), (3, .dec false), (6, .call (.p (.bool y_4)) []), (9, .dec false), (11, .call (.p (.bool y_7)) []), (13, .dec false)], .n 3, .r [(0, .obj (oL true 46 5 cCached dCached ([] : List TCached)))], .n 5, .k [1, 2, 3, 7, 8]] (by kernel_rfl) (Obs.of (by kernel_rfl) (And.intro (le_nil 46 5 cCached dCached) (And.intro (cache_Valid.spec e_2) (And.intro (nt g_3) (And.intro (cache_inDays.spec e_5) (And.intro (nt g_6) (And.intro (cache_inDays.spec e_8) (And.intro (nt g_9) (le_nil 46 5 cCached dCached))))))))) (cache_Expire.p1.run k _ _ _ _ _ r h)
theorem cache_Expire.p1.mono   : ∀ (k k' : Nat) (s1 : (List TCached)) (day2 : Int) (i8 : Int) (c3b : TCache) (out7 : (List TCached)) (r : (List TCached)), k ≤ k' → cache_Expire.p1 k s1 day2 i8 c3b out7 = some r → cache_Expire.p1 k' s1 day2 i8 c3b out7 = some r := by
  intro k
  induction k with
  | zero => intro k' s1 day2 i8 c3b out7 r hk h; simp [cache_Expire.p1] at h
  | succ k ih =>
    intro k' s1 day2 i8 c3b out7 r hk h
    obtain ⟨k', rfl⟩ : ∃ m, k' = m + 1 := ⟨k' - 1, by omega⟩
    replace hk := Nat.le_of_succ_le_succ hk
    rw [cache_Expire.p1] at h ⊢
    rcases ite_or h with ⟨g_10, h⟩ | ⟨g_10, h⟩
    · refine itp g_10 ?_
      obtain ⟨g_11, h⟩ := ite_some h
      refine itp g_11 ?_
      rcases ite_or h with ⟨g_12, h⟩ | ⟨g_12, h⟩
      · refine itp g_12 ?_
        rcases ite_or h with ⟨g_13, h⟩ | ⟨g_13, h⟩
        · refine itp g_13 ?_
          obtain ⟨y_14, e_15, h⟩ := bind_or h
          refine bnd (cache_duplicate.mono _ _ _ _ hk e_15) ?_
          obtain ⟨g_16, h⟩ := ite_some h
          refine itp g_16 ?_
          exact ih _ _ _ _ _ _ r hk h
        · refine itn g_13 ?_
          exact ih _ _ _ _ _ _ r hk h
      · refine itn g_12 ?_
        exact ih _ _ _ _ _ _ r hk h
    · refine itn g_10 ?_
      exact h
theorem cache_Expire.mono   : ∀ (k k' : Nat) (c0 : TCache) (s1 : (List TCached)) (day2 : Int) (r : (List TCached)), k ≤ k' → cache_Expire k c0 s1 day2 = some r → cache_Expire k' c0 s1 day2 = some r := by
  intro k k' c0 s1 day2 r hk h
  unfold cache_Expire at h ⊢
  obtain ⟨y_1, e_2, h⟩ := bind_or h
  refine bnd (cache_Valid.mono _ _ _ _ hk e_2) ?_
  rcases ite_or h with ⟨g_3, h⟩ | ⟨g_3, h⟩
  · refine itp g_3 ?_
    exact h
  · refine itn g_3 ?_
    obtain ⟨y_4, e_5, h⟩ := bind_or h
    refine bnd (cache_inDays.mono _ _ _ _ hk e_5) ?_
    rcases ite_or h with ⟨g_6, h⟩ | ⟨g_6, h⟩
    · refine itp g_6 ?_
      exact h
    · refine itn g_6 ?_
      obtain ⟨y_7, e_8, h⟩ := bind_or h
      refine bnd (cache_inDays.mono _ _ _ _ hk e_8) ?_
      rcases ite_or h with ⟨g_9, h⟩ | ⟨g_9, h⟩
      · refine itp g_9 ?_
        exact h
      · refine itn g_9 ?_
        exact cache_Expire.p1.mono _ _ _ _ _ _ _ r hk h
theorem cache_Expire.spec {k : Nat} {c0 : TCache} {s1 : (List TCached)} {day2 : Int} {r : (List TCached)} (h : cache_Expire k c0 s1 day2 = some r) : Spec Try.prog 25 [.agg ((cCache c0).map .p), .p (eL 5 cCached dCached s1), .p (.int .i64 day2)] (.sref 0 46 5 (r).length) [(oL true 46 5 cCached dCached (r))] :=
  spec_of mix Try.func25 (body := bodyOf Try.f25) (by kernel_rfl) (by kernel_rfl) (cache_Expire.run h)
end Go.Proofs.YtjhnpaenhdbhpabV
set_option linter.unusedVariables false
set_option linter.unusedSimpArgs false
set_option maxRecDepth 100000
namespace Go.Proofs.YtjhnpaenhdbhpabV
open Go Go.RowKit
noncomputable def cache_usable  (k : Nat) (c0 : TCache) (s1 : (List TCached)) (rows2 : (List TEntry)) (day3 : Int) : Option Bool := (cache_Valid k s1).bind fun y_1 => (if y_1 = true then ((bag_Valid k rows2).bind fun y_4 => (if y_4 = true then ((cache_inDays k c0.f3).bind fun y_7 => (if y_7 = true then ((cache_inDays k day3).bind fun y_10 => (some y_10)) else (some false))) else (some false))) else (some false))
noncomputable def cache_usable.t : List Item := [.code (bodyOf Try.f42)]
noncomputable def cache_usable.s (c0 : TCache) (s1 : (List TCached)) (rows2 : (List TEntry)) (day3 : Int) : St := ⟨frOf Try.f42.ntmps 0 [(0, .agg ((cCache c0).map .p)), (1, .p (eL 5 cCached dCached s1)), (2, .p (eL 2 cEntry dEntry rows2)), (3, .p (.int .i64 day3))], []⟩
theorem cache_usable.run   {k : Nat} {c0 : TCache} {s1 : (List TCached)} {rows2 : (List TEntry)} {day3 : Int} {r : Bool} (h : cache_usable k c0 s1 rows2 day3 = some r) : RunC Try.prog Try.f42 cache_usable.t (cache_usable.s c0 s1 rows2 day3) (.p (.bool r)) [] := by
  unfold cache_usable at h
  obtain ⟨y_1, e_2, h⟩ := bind_or h
  rcases ite_or h with ⟨g_3, h⟩ | ⟨g_3, h⟩
  · obtain ⟨y_4, e_5, h⟩ := bind_or h
    rcases ite_or h with ⟨g_6, h⟩ | ⟨g_6, h⟩
    · obtain ⟨y_7, e_8, h⟩ := bind_or h
      rcases ite_or h with ⟨g_9, h⟩ | ⟨g_9, h⟩
      · obtain ⟨y_10, e_11, h⟩ := bind_or h
        obtain rfl := Option.some.inj h
        exact RunC.out [.n 3, .r [(1, .call (.p (.bool y_1)) []), (2, .dec true), (4, .call (.p (.bool y_4)) []), (6, .dec true), (9, .call (.p (.bool y_7)) []), (11, .dec true), (13, .call (.p (.bool y_10)) [])]] (by kernel_rfl) (Obs.of (by kernel_rfl) (And.intro (cache_Valid.spec e_2) (And.intro g_3 (And.intro (bag_Valid.spec e_5) (And.intro g_6 (And.intro (cache_inDays.spec e_8) (And.intro g_9 (cache_inDays.spec e_11))))))))
      · obtain rfl := Option.some.inj h
        exact RunC.out [.n 3, .r [(1, .call (.p (.bool y_1)) []), (2, .dec true), (4, .call (.p (.bool y_4)) []), (6, .dec true), (9, .call (.p (.bool y_7)) []), (11, .dec false)]] (by kernel_rfl) (Obs.of (by kernel_rfl) (And.intro (cache_Valid.spec e_2) (And.intro g_3 (And.intro (bag_Valid.spec e_5) (And.intro g_6 (And.intro (cache_inDays.spec e_8) (nt g_9)))))))
    · obtain rfl := Option.some.inj h
      exact RunC.out [.n 3, .r [(1, .call (.p (.bool y_1)) []), (2, .dec true), (4, .call (.p (.bool y_4)) []), (6, .dec false)]] (by kernel_rfl) (Obs.of (by kernel_rfl) (And.intro (cache_Valid.spec e_2) (And.intro g_3 (And.intro (bag_Valid.spec e_5) (nt g_6)))))
  · obtain rfl := Option.some.inj h
    exact RunC.out [.n 3, .r [(1, .call (.p (.bool y_1)) []), (2, .dec false)]] (by kernel_rfl) (Obs.of (by kernel_rfl) (And.intro (cache_Valid.spec e_2) (nt g_3)))
theorem cache_usable.mono   : ∀ (k k' : Nat) (c0 : TCache) (s1 : (List TCached)) (rows2 : (List TEntry)) (day3 : Int) (r : Bool), k ≤ k' → cache_usable k c0 s1 rows2 day3 = some r → cache_usable k' c0 s1 rows2 day3 = some r := by
  intro k k' c0 s1 rows2 day3 r hk h
  unfold cache_usable at h ⊢
  obtain ⟨y_1, e_2, h⟩ := bind_or h
  refine bnd (cache_Valid.mono _ _ _ _ hk e_2) ?_
  rcases ite_or h with ⟨g_3, h⟩ | ⟨g_3, h⟩
  · refine itp g_3 ?_
    obtain ⟨y_4, e_5, h⟩ := bind_or h
    refine bnd (bag_Valid.mono _ _ _ _ hk e_5) ?_
    rcases ite_or h with ⟨g_6, h⟩ | ⟨g_6, h⟩
    · refine itp g_6 ?_
      obtain ⟨y_7, e_8, h⟩ := bind_or h
      refine bnd (cache_inDays.mono _ _ _ _ hk e_8) ?_
      rcases ite_or h with ⟨g_9, h⟩ | ⟨g_9, h⟩
      · refine itp g_9 ?_
        obtain ⟨y_10, e_11, h⟩ := bind_or h
        refine bnd (cache_inDays.mono _ _ _ _ hk e_11) ?_
        exact h
      · refine itn g_9 ?_
        exact h
    · refine itn g_6 ?_
      exact h
  · refine itn g_3 ?_
    exact h
theorem cache_usable.spec {k : Nat} {c0 : TCache} {s1 : (List TCached)} {rows2 : (List TEntry)} {day3 : Int} {r : Bool} (h : cache_usable k c0 s1 rows2 day3 = some r) : Spec Try.prog 42 [.agg ((cCache c0).map .p), .p (eL 5 cCached dCached s1), .p (eL 2 cEntry dEntry rows2), .p (.int .i64 day3)] (.p (.bool r)) [] :=
  spec_of mix Try.func42 (body := bodyOf Try.f42) (by kernel_rfl) (by kernel_rfl) (cache_usable.run h)
end Go.Proofs.YtjhnpaenhdbhpabV
set_option linter.unusedVariables false
set_option linter.unusedSimpArgs false
set_option maxRecDepth 100000
namespace Go.Proofs.YtjhnpaenhdbhpabV
open Go Go.RowKit
noncomputable def cache_at  (k : Nat) (row0 : (List TValue)) (column1 : Int) : Option TValue := if (decide (column1 < 0)) = true then (some (TValue.mk 0 0 (⟨#[]⟩ : ByteArray))) else (if (decide (column1 ≥ ((row0).length : Int))) = true then (some (TValue.mk 0 0 (⟨#[]⟩ : ByteArray))) else (if 0 ≤ column1 ∧ column1 < ((row0).length : Int) then ((value_Clean k (row0.getD column1.toNat dValue)).bind fun y_4 => (some y_4)) else none))
noncomputable def cache_at.t : List Item := [.code (bodyOf Try.f38)]
noncomputable def cache_at.s (row0 : (List TValue)) (column1 : Int) : St := ⟨frOf Try.f38.ntmps 0 [(0, .p (eL 3 cValue dValue row0)), (1, .p (.int .i64 column1))], []⟩
theorem cache_at.run   {k : Nat} {row0 : (List TValue)} {column1 : Int} {r : TValue} (h : cache_at k row0 column1 = some r) : RunC Try.prog Try.f38 cache_at.t (cache_at.s row0 column1) (.agg ((cValue r).map .p)) [] := by
  unfold cache_at at h
  rcases ite_or h with ⟨g_1, h⟩ | ⟨g_1, h⟩
  · obtain rfl := Option.some.inj h
    exact RunC.out [.n 4, .r [(2, .dec true)], .n 3] (by kernel_rfl) (Obs.of (by kernel_rfl) g_1)
  · rcases ite_or h with ⟨g_2, h⟩ | ⟨g_2, h⟩
    · obtain rfl := Option.some.inj h
      exact RunC.out [.n 4, .r [(2, .dec false), (7, .dec true)], .n 3] (by kernel_rfl) (Obs.of (by kernel_rfl) (And.intro (nt g_1) g_2))
    · obtain ⟨g_3, h⟩ := ite_some h
      obtain ⟨y_4, e_5, h⟩ := bind_or h
      obtain rfl := Option.some.inj h
      exact RunC.out [.n 4, .r [(2, .dec false), (7, .dec false)], .n 3, .r [(4, .call (.agg ((cValue y_4).map .p)) [])]] (by kernel_rfl) (Obs.of (by kernel_rfl) (And.intro (nt g_1) (And.intro (nt g_2) (And.intro g_3 (value_Clean.spec e_5)))))
theorem cache_at.mono   : ∀ (k k' : Nat) (row0 : (List TValue)) (column1 : Int) (r : TValue), k ≤ k' → cache_at k row0 column1 = some r → cache_at k' row0 column1 = some r := by
  intro k k' row0 column1 r hk h
  unfold cache_at at h ⊢
  rcases ite_or h with ⟨g_1, h⟩ | ⟨g_1, h⟩
  · refine itp g_1 ?_
    exact h
  · refine itn g_1 ?_
    rcases ite_or h with ⟨g_2, h⟩ | ⟨g_2, h⟩
    · refine itp g_2 ?_
      exact h
    · refine itn g_2 ?_
      obtain ⟨g_3, h⟩ := ite_some h
      refine itp g_3 ?_
      obtain ⟨y_4, e_5, h⟩ := bind_or h
      refine bnd (value_Clean.mono _ _ _ _ hk e_5) ?_
      exact h
theorem cache_at.spec {k : Nat} {row0 : (List TValue)} {column1 : Int} {r : TValue} (h : cache_at k row0 column1 = some r) : Spec Try.prog 38 [.p (eL 3 cValue dValue row0), .p (.int .i64 column1)] (.agg ((cValue r).map .p)) [] :=
  spec_of mix Try.func38 (body := bodyOf Try.f38) (by kernel_rfl) (by kernel_rfl) (cache_at.run h)
end Go.Proofs.YtjhnpaenhdbhpabV
set_option linter.unusedVariables false
set_option linter.unusedSimpArgs false
set_option maxRecDepth 100000
namespace Go.Proofs.YtjhnpaenhdbhpabV
open Go Go.RowKit
noncomputable def cache_Select.p1  : Nat → (List TEntry) → Int → Int → TValue → (List TEntry) → Option (List TEntry)
  | 0, _, _, _, _, _ => none
  | k + 1, rows0, column1, i9, want7b, out8 => if (decide (i9 < ((rows0).length : Int))) = true then (if 0 ≤ i9 ∧ i9 < ((rows0).length : Int) then ((cache_at k ((rows0.getD i9.toNat dEntry).f0) column1).bind fun y_5 => (if ((y_5.f0 == want7b.f0) && ((y_5.f1 == want7b.f1) && ((y_5.f2.data.toList == want7b.f2.data.toList) && true))) = true then (if (out8).length + ([(rows0.getD i9.toNat dEntry)]).length ≤ maxLen ∧ ((out8).length + ([(rows0.getD i9.toNat dEntry)]).length) * 32 ≤ 140737488355328 then (cache_Select.p1 k rows0 column1 (IntKind.i64.wrap (i9 + 1)) want7b (out8 ++ ([(rows0.getD i9.toNat dEntry)]))) else none) else (cache_Select.p1 k rows0 column1 (IntKind.i64.wrap (i9 + 1)) want7b out8))) else none) else ((cache_copied k out8).bind fun y_9 => (some y_9))
noncomputable def cache_Select  (k : Nat) (rows0 : (List TEntry)) (column1 : Int) (v2 : TValue) : Option (List TEntry) := (value_Clean k v2).bind fun y_1 => (cache_Select.p1 k rows0 column1 0 y_1 ([] : List TEntry))
noncomputable def cache_Select.t : List Item := [.code (bodyOf Try.f14)]
noncomputable def cache_Select.s (rows0 : (List TEntry)) (column1 : Int) (v2 : TValue) : St := ⟨frOf Try.f14.ntmps 0 [(0, .p (eL 2 cEntry dEntry rows0)), (1, .p (.int .i64 column1)), (2, .agg ((cValue v2).map .p))], []⟩
noncomputable def cache_Select.p1.t : List Item := nav 11 [] cache_Select.t
noncomputable def cache_Select.p1.s (rows0 : (List TEntry)) (column1 : Int) (i9 : Int) (want7b : TValue) (out8 : (List TEntry)) : St := ⟨frOf Try.f14.ntmps 0 [(0, .p (eL 2 cEntry dEntry rows0)), (1, .p (.int .i64 column1)), (7, .ptr 0 0 0), (8, .sref 1 36 2 (out8).length), (9, .p (.int .i64 i9))], [.box ((cValue want7b).map .p), (oL true 36 2 cEntry dEntry out8)]⟩
theorem cache_Select.p1.run   : ∀ (k : Nat) (rows0 : (List TEntry)) (column1 : Int) (i9 : Int) (want7b : TValue) (out8 : (List TEntry)) (r : (List TEntry)), cache_Select.p1 k rows0 column1 i9 want7b out8 = some r → RunC Try.prog Try.f14 cache_Select.p1.t (cache_Select.p1.s rows0 column1 i9 want7b out8) (.sref 0 36 2 (r).length) [(oL true 36 2 cEntry dEntry (r))] := by
  intro k
  induction k with
  | zero => intro rows0 column1 i9 want7b out8 r h; simp [cache_Select.p1] at h
  | succ k ih =>
    intro rows0 column1 i9 want7b out8 r h
    rw [cache_Select.p1] at h
    rcases ite_or h with ⟨g_3, h⟩ | ⟨g_3, h⟩
    · obtain ⟨g_4, h⟩ := ite_some h
      obtain ⟨y_5, e_6, h⟩ := bind_or h
      rcases ite_or h with ⟨g_7, h⟩ | ⟨g_7, h⟩
      · obtain ⟨g_8, h⟩ := ite_some h
        exact RunC.go [.n 2, .r [(3, .dec true)], .n 5, .r [(6, .call (.agg ((cValue y_5).map .p)) []), (8, .dec true)], .n 1, .r [(5, .obj (oL true 36 2 cEntry dEntry [(rows0.getD i9.toNat dEntry)])), (6, .obj (oL true 36 2 cEntry dEntry (out8 ++ ([(rows0.getD i9.toNat dEntry)]))))], .n 3, .k [0, 1, 7, 8, 9]] (by kernel_rfl) (Obs.of (by kernel_rfl) (And.intro g_3 (And.intro g_4 (And.intro (cache_at.spec e_6) (And.intro g_7 (And.intro g_4 (And.intro (le_one 36 2 cEntry dEntry (rows0.getD i9.toNat dEntry)) (And.intro g_8 (le_app 36 2 cEntry dEntry out8 ([(rows0.getD i9.toNat dEntry)])))))))))) (ih _ _ _ _ _ r h)
      · exact RunC.go [.n 2, .r [(3, .dec true)], .n 5, .r [(6, .call (.agg ((cValue y_5).map .p)) []), (8, .dec false)], .n 5, .k [0, 1, 7, 8, 9]] (by kernel_rfl) (Obs.of (by kernel_rfl) (And.intro g_3 (And.intro g_4 (And.intro (cache_at.spec e_6) (nt g_7))))) (ih _ _ _ _ _ r h)
    · obtain ⟨y_9, e_10, h⟩ := bind_or h
      obtain rfl := Option.some.inj h
      exact RunC.out [.n 2, .r [(3, .dec false)], .n 3, .r [(1, .call (.sref 0 36 2 (y_9).length) [(oL true 36 2 cEntry dEntry y_9)])]] (by kernel_rfl) (Obs.of (by kernel_rfl) (And.intro (nt g_3) (cache_copied.spec e_10)))
theorem cache_Select.run   {k : Nat} {rows0 : (List TEntry)} {column1 : Int} {v2 : TValue} {r : (List TEntry)} (h : cache_Select k rows0 column1 v2 = some r) : RunC Try.prog Try.f14 cache_Select.t (cache_Select.s rows0 column1 v2) (.sref 0 36 2 (r).length) [(oL true 36 2 cEntry dEntry (r))] := by
  unfold cache_Select at h
  obtain ⟨y_1, e_2, h⟩ := bind_or h
  exact RunC.go [.n 1, .r [(1, .obj (oL true 36 2 cEntry dEntry ([] : List TEntry)))], .n 1, .r [(1, .call (.agg ((cValue y_1).map .p)) [])], .n 1, .r [(0, .obj (oL true 36 2 cEntry dEntry ([] : List TEntry)))], .n 5, .k [0, 1, 7, 8, 9]] (by kernel_rfl) (Obs.of (by kernel_rfl) (And.intro (le_nil 36 2 cEntry dEntry) (And.intro (value_Clean.spec e_2) (le_nil 36 2 cEntry dEntry)))) (cache_Select.p1.run k _ _ _ _ _ r h)
theorem cache_Select.p1.mono   : ∀ (k k' : Nat) (rows0 : (List TEntry)) (column1 : Int) (i9 : Int) (want7b : TValue) (out8 : (List TEntry)) (r : (List TEntry)), k ≤ k' → cache_Select.p1 k rows0 column1 i9 want7b out8 = some r → cache_Select.p1 k' rows0 column1 i9 want7b out8 = some r := by
  intro k
  induction k with
  | zero => intro k' rows0 column1 i9 want7b out8 r hk h; simp [cache_Select.p1] at h
  | succ k ih =>
    intro k' rows0 column1 i9 want7b out8 r hk h
    obtain ⟨k', rfl⟩ : ∃ m, k' = m + 1 := ⟨k' - 1, by omega⟩
    replace hk := Nat.le_of_succ_le_succ hk
    rw [cache_Select.p1] at h ⊢
    rcases ite_or h with ⟨g_3, h⟩ | ⟨g_3, h⟩
    · refine itp g_3 ?_
      obtain ⟨g_4, h⟩ := ite_some h
      refine itp g_4 ?_
      obtain ⟨y_5, e_6, h⟩ := bind_or h
      refine bnd (cache_at.mono _ _ _ _ _ hk e_6) ?_
      rcases ite_or h with ⟨g_7, h⟩ | ⟨g_7, h⟩
      · refine itp g_7 ?_
        obtain ⟨g_8, h⟩ := ite_some h
        refine itp g_8 ?_
        exact ih _ _ _ _ _ _ r hk h
      · refine itn g_7 ?_
        exact ih _ _ _ _ _ _ r hk h
    · refine itn g_3 ?_
      obtain ⟨y_9, e_10, h⟩ := bind_or h
      refine bnd (cache_copied.mono _ _ _ _ hk e_10) ?_
      exact h
theorem cache_Select.mono   : ∀ (k k' : Nat) (rows0 : (List TEntry)) (column1 : Int) (v2 : TValue) (r : (List TEntry)), k ≤ k' → cache_Select k rows0 column1 v2 = some r → cache_Select k' rows0 column1 v2 = some r := by
  intro k k' rows0 column1 v2 r hk h
  unfold cache_Select at h ⊢
  obtain ⟨y_1, e_2, h⟩ := bind_or h
  refine bnd (value_Clean.mono _ _ _ _ hk e_2) ?_
  exact cache_Select.p1.mono _ _ _ _ _ _ _ r hk h
theorem cache_Select.spec {k : Nat} {rows0 : (List TEntry)} {column1 : Int} {v2 : TValue} {r : (List TEntry)} (h : cache_Select k rows0 column1 v2 = some r) : Spec Try.prog 14 [.p (eL 2 cEntry dEntry rows0), .p (.int .i64 column1), .agg ((cValue v2).map .p)] (.sref 0 36 2 (r).length) [(oL true 36 2 cEntry dEntry (r))] :=
  spec_of mix Try.func14 (body := bodyOf Try.f14) (by kernel_rfl) (by kernel_rfl) (cache_Select.run h)
end Go.Proofs.YtjhnpaenhdbhpabV
set_option linter.unusedVariables false
set_option linter.unusedSimpArgs false
set_option maxRecDepth 100000
namespace Go.Proofs.YtjhnpaenhdbhpabV
open Go Go.RowKit
noncomputable def cache_Lookup.p3  : Nat → (List TEntry) → Int → Int → TCache → (List TCached) → TValue → Option ((List TCached) × (List TEntry) × Int)
  | 0, _, _, _, _, _, _ => none
  | k + 1, rows2, day4, i18, c5b, out13, want14b => if (decide (i18 < ((out13).length : Int))) = true then (if 0 ≤ i18 ∧ i18 < ((out13).length : Int) then ((value_Compare k ((out13.getD i18.toNat dCached).f0) want14b).bind fun y_23 => (if (decide (y_23 < 0)) = true then (cache_Lookup.p3 k rows2 day4 (IntKind.i64.wrap (i18 + 1)) c5b out13 want14b) else (if (out13).length + ([(TCached.mk (TValue.mk 0 0 (⟨#[]⟩ : ByteArray)) ([] : List TEntry) 0)]).length ≤ maxLen ∧ ((out13).length + ([(TCached.mk (TValue.mk 0 0 (⟨#[]⟩ : ByteArray)) ([] : List TEntry) 0)]).length) * 64 ≤ 140737488355328 then (if 0 ≤ (IntKind.i64.wrap (i18 + 1)) ∧ (IntKind.i64.wrap (i18 + 1)) ≤ (((out13 ++ ([(TCached.mk (TValue.mk 0 0 (⟨#[]⟩ : ByteArray)) ([] : List TEntry) 0)]))).length : Int) ∧ (((out13 ++ ([(TCached.mk (TValue.mk 0 0 (⟨#[]⟩ : ByteArray)) ([] : List TEntry) 0)]))).length : Int) ≤ (((out13 ++ ([(TCached.mk (TValue.mk 0 0 (⟨#[]⟩ : ByteArray)) ([] : List TEntry) 0)]))).length : Int) then (if 0 ≤ i18 ∧ i18 ≤ (((out13 ++ ([(TCached.mk (TValue.mk 0 0 (⟨#[]⟩ : ByteArray)) ([] : List TEntry) 0)]))).length : Int) ∧ (((out13 ++ ([(TCached.mk (TValue.mk 0 0 (⟨#[]⟩ : ByteArray)) ([] : List TEntry) 0)]))).length : Int) ≤ (((out13 ++ ([(TCached.mk (TValue.mk 0 0 (⟨#[]⟩ : ByteArray)) ([] : List TEntry) 0)]))).length : Int) then ((cache_Select k rows2 c5b.f2 want14b).bind fun y_29 => (if 0 ≤ i18 ∧ i18 < (((out13 ++ ([(TCached.mk (TValue.mk 0 0 (⟨#[]⟩ : ByteArray)) ([] : List TEntry) 0)]))).length : Int) then ((cache_copied k ((((copyL (out13 ++ ([(TCached.mk (TValue.mk 0 0 (⟨#[]⟩ : ByteArray)) ([] : List TEntry) 0)])) (IntKind.i64.wrap (i18 + 1)) (((out13 ++ ([(TCached.mk (TValue.mk 0 0 (⟨#[]⟩ : ByteArray)) ([] : List TEntry) 0)]))).length : Int) (subL (out13 ++ ([(TCached.mk (TValue.mk 0 0 (⟨#[]⟩ : ByteArray)) ([] : List TEntry) 0)])) i18 (((out13 ++ ([(TCached.mk (TValue.mk 0 0 (⟨#[]⟩ : ByteArray)) ([] : List TEntry) 0)]))).length : Int))).set i18.toNat (TCached.mk want14b y_29 day4)).getD i18.toNat dCached).f1)).bind fun y_32 => (some (((copyL (out13 ++ ([(TCached.mk (TValue.mk 0 0 (⟨#[]⟩ : ByteArray)) ([] : List TEntry) 0)])) (IntKind.i64.wrap (i18 + 1)) (((out13 ++ ([(TCached.mk (TValue.mk 0 0 (⟨#[]⟩ : ByteArray)) ([] : List TEntry) 0)]))).length : Int) (subL (out13 ++ ([(TCached.mk (TValue.mk 0 0 (⟨#[]⟩ : ByteArray)) ([] : List TEntry) 0)])) i18 (((out13 ++ ([(TCached.mk (TValue.mk 0 0 (⟨#[]⟩ : ByteArray)) ([] : List TEntry) 0)]))).length : Int))).set i18.toNat (TCached.mk want14b y_29 day4)), y_32, 0))) else none)) else none) else none) else none))) else none) else (if (out13).length + ([(TCached.mk (TValue.mk 0 0 (⟨#[]⟩ : ByteArray)) ([] : List TEntry) 0)]).length ≤ maxLen ∧ ((out13).length + ([(TCached.mk (TValue.mk 0 0 (⟨#[]⟩ : ByteArray)) ([] : List TEntry) 0)]).length) * 64 ≤ 140737488355328 then (if 0 ≤ (IntKind.i64.wrap (i18 + 1)) ∧ (IntKind.i64.wrap (i18 + 1)) ≤ (((out13 ++ ([(TCached.mk (TValue.mk 0 0 (⟨#[]⟩ : ByteArray)) ([] : List TEntry) 0)]))).length : Int) ∧ (((out13 ++ ([(TCached.mk (TValue.mk 0 0 (⟨#[]⟩ : ByteArray)) ([] : List TEntry) 0)]))).length : Int) ≤ (((out13 ++ ([(TCached.mk (TValue.mk 0 0 (⟨#[]⟩ : ByteArray)) ([] : List TEntry) 0)]))).length : Int) then (if 0 ≤ i18 ∧ i18 ≤ (((out13 ++ ([(TCached.mk (TValue.mk 0 0 (⟨#[]⟩ : ByteArray)) ([] : List TEntry) 0)]))).length : Int) ∧ (((out13 ++ ([(TCached.mk (TValue.mk 0 0 (⟨#[]⟩ : ByteArray)) ([] : List TEntry) 0)]))).length : Int) ≤ (((out13 ++ ([(TCached.mk (TValue.mk 0 0 (⟨#[]⟩ : ByteArray)) ([] : List TEntry) 0)]))).length : Int) then ((cache_Select k rows2 c5b.f2 want14b).bind fun y_37 => (if 0 ≤ i18 ∧ i18 < (((out13 ++ ([(TCached.mk (TValue.mk 0 0 (⟨#[]⟩ : ByteArray)) ([] : List TEntry) 0)]))).length : Int) then ((cache_copied k ((((copyL (out13 ++ ([(TCached.mk (TValue.mk 0 0 (⟨#[]⟩ : ByteArray)) ([] : List TEntry) 0)])) (IntKind.i64.wrap (i18 + 1)) (((out13 ++ ([(TCached.mk (TValue.mk 0 0 (⟨#[]⟩ : ByteArray)) ([] : List TEntry) 0)]))).length : Int) (subL (out13 ++ ([(TCached.mk (TValue.mk 0 0 (⟨#[]⟩ : ByteArray)) ([] : List TEntry) 0)])) i18 (((out13 ++ ([(TCached.mk (TValue.mk 0 0 (⟨#[]⟩ : ByteArray)) ([] : List TEntry) 0)]))).length : Int))).set i18.toNat (TCached.mk want14b y_37 day4)).getD i18.toNat dCached).f1)).bind fun y_40 => (some (((copyL (out13 ++ ([(TCached.mk (TValue.mk 0 0 (⟨#[]⟩ : ByteArray)) ([] : List TEntry) 0)])) (IntKind.i64.wrap (i18 + 1)) (((out13 ++ ([(TCached.mk (TValue.mk 0 0 (⟨#[]⟩ : ByteArray)) ([] : List TEntry) 0)]))).length : Int) (subL (out13 ++ ([(TCached.mk (TValue.mk 0 0 (⟨#[]⟩ : ByteArray)) ([] : List TEntry) 0)])) i18 (((out13 ++ ([(TCached.mk (TValue.mk 0 0 (⟨#[]⟩ : ByteArray)) ([] : List TEntry) 0)]))).length : Int))).set i18.toNat (TCached.mk want14b y_37 day4)), y_40, 0))) else none)) else none) else none) else none)
noncomputable def cache_Lookup.p2  : Nat → (List TEntry) → Int → Int → Int → TCache → (List TCached) → TValue → Option ((List TCached) × (List TEntry) × Int)
  | 0, _, _, _, _, _, _, _ => none
  | k + 1, rows2, day4, oldest16, i17, c5b, out13, want14b => if (decide (i17 < ((out13).length : Int))) = true then (if 0 ≤ i17 ∧ i17 < ((out13).length : Int) then (if 0 ≤ oldest16 ∧ oldest16 < ((out13).length : Int) then (if (decide ((out13.getD i17.toNat dCached).f2 < (out13.getD oldest16.toNat dCached).f2)) = true then (cache_Lookup.p2 k rows2 day4 i17 (IntKind.i64.wrap (i17 + 1)) c5b out13 want14b) else (cache_Lookup.p2 k rows2 day4 oldest16 (IntKind.i64.wrap (i17 + 1)) c5b out13 want14b)) else none) else none) else (if 0 ≤ (0 : Int) ∧ (0 : Int) ≤ oldest16 ∧ oldest16 ≤ ((out13).length : Int) then (if 0 ≤ (IntKind.i64.wrap (oldest16 + 1)) ∧ (IntKind.i64.wrap (oldest16 + 1)) ≤ ((out13).length : Int) ∧ ((out13).length : Int) ≤ ((out13).length : Int) then (if (oldest16.toNat - (0 : Int).toNat) + (((out13).length : Int).toNat - (IntKind.i64.wrap (oldest16 + 1)).toNat) ≤ maxLen ∧ ((oldest16.toNat - (0 : Int).toNat) + (((out13).length : Int).toNat - (IntKind.i64.wrap (oldest16 + 1)).toNat)) * 64 ≤ 140737488355328 then (cache_Lookup.p3 k rows2 day4 0 c5b (subL out13 0 oldest16 ++ subL out13 (IntKind.i64.wrap (oldest16 + 1)) ((out13).length : Int)) want14b) else none) else none) else none)
noncomputable def cache_Lookup.p1  : Nat → (List TEntry) → Int → Int → TCache → (List TCached) → TValue → Option ((List TCached) × (List TEntry) × Int)
  | 0, _, _, _, _, _, _ => none
  | k + 1, rows2, day4, i15, c5b, out13, want14b => if (decide (i15 < ((out13).length : Int))) = true then (if 0 ≤ i15 ∧ i15 < ((out13).length : Int) then (if (((out13.getD i15.toNat dCached).f0.f0 == want14b.f0) && (((out13.getD i15.toNat dCached).f0.f1 == want14b.f1) && ((((out13.getD i15.toNat dCached).f0.f2).data.toList == want14b.f2.data.toList) && true))) = true then ((cache_copied k ((out13.getD i15.toNat dCached).f1)).bind fun y_11 => (some (out13, y_11, 0))) else (cache_Lookup.p1 k rows2 day4 (IntKind.i64.wrap (i15 + 1)) c5b out13 want14b)) else none) else (if (decide (((out13).length : Int) ≥ 16)) = true then (cache_Lookup.p2 k rows2 day4 0 1 c5b out13 want14b) else (cache_Lookup.p3 k rows2 day4 0 c5b out13 want14b))
noncomputable def cache_Lookup  (k : Nat) (c0 : TCache) (s1 : (List TCached)) (rows2 : (List TEntry)) (v3 : TValue) (day4 : Int) : Option ((List TCached) × (List TEntry) × Int) := (cache_usable k c0 s1 rows2 day4).bind fun y_1 => (if (!y_1) = true then (some (([] : List TCached), ([] : List TEntry), 1)) else ((cache_Expire k c0 s1 day4).bind fun y_4 => ((value_Clean k v3).bind fun y_6 => (cache_Lookup.p1 k rows2 day4 0 c0 y_4 y_6))))
noncomputable def cache_Lookup.t : List Item := [.code (bodyOf Try.f17)]
noncomputable def cache_Lookup.s (c0 : TCache) (s1 : (List TCached)) (rows2 : (List TEntry)) (v3 : TValue) (day4 : Int) : St := ⟨frOf Try.f17.ntmps 0 [(0, .agg ((cCache c0).map .p)), (1, .p (eL 5 cCached dCached s1)), (2, .p (eL 2 cEntry dEntry rows2)), (3, .agg ((cValue v3).map .p)), (4, .p (.int .i64 day4))], []⟩
noncomputable def cache_Lookup.p1.t : List Item := nav 16 [false] cache_Lookup.t
noncomputable def cache_Lookup.p1.s (rows2 : (List TEntry)) (day4 : Int) (i15 : Int) (c5b : TCache) (out13 : (List TCached)) (want14b : TValue) : St := ⟨frOf Try.f17.ntmps 0 [(2, .p (eL 2 cEntry dEntry rows2)), (4, .p (.int .i64 day4)), (5, .ptr 0 0 0), (13, .sref 1 46 5 (out13).length), (14, .ptr 2 0 0), (15, .p (.int .i64 i15))], [.box ((cCache c5b).map .p), (oL true 46 5 cCached dCached out13), .box ((cValue want14b).map .p)]⟩
noncomputable def cache_Lookup.p2.t : List Item := nav 16 [false, true] cache_Lookup.p1.t
noncomputable def cache_Lookup.p2.s (rows2 : (List TEntry)) (day4 : Int) (oldest16 : Int) (i17 : Int) (c5b : TCache) (out13 : (List TCached)) (want14b : TValue) : St := ⟨frOf Try.f17.ntmps 0 [(2, .p (eL 2 cEntry dEntry rows2)), (4, .p (.int .i64 day4)), (5, .ptr 0 0 0), (13, .sref 1 46 5 (out13).length), (14, .ptr 2 0 0), (16, .p (.int .i64 oldest16)), (17, .p (.int .i64 i17))], [.box ((cCache c5b).map .p), (oL true 46 5 cCached dCached out13), .box ((cValue want14b).map .p)]⟩
noncomputable def cache_Lookup.p3.t : List Item := nav 11 [false] cache_Lookup.p2.t
noncomputable def cache_Lookup.p3.s (rows2 : (List TEntry)) (day4 : Int) (i18 : Int) (c5b : TCache) (out13 : (List TCached)) (want14b : TValue) : St := ⟨frOf Try.f17.ntmps 0 [(2, .p (eL 2 cEntry dEntry rows2)), (4, .p (.int .i64 day4)), (5, .ptr 0 0 0), (13, .sref 1 46 5 (out13).length), (14, .ptr 2 0 0), (18, .p (.int .i64 i18))], [.box ((cCache c5b).map .p), (oL true 46 5 cCached dCached out13), .box ((cValue want14b).map .p)]⟩
theorem cache_Lookup.p3.run   : ∀ (k : Nat) (rows2 : (List TEntry)) (day4 : Int) (i18 : Int) (c5b : TCache) (out13 : (List TCached)) (want14b : TValue) (r : ((List TCached) × (List TEntry) × Int)), cache_Lookup.p3 k rows2 day4 i18 c5b out13 want14b = some r → RunC Try.prog Try.f17 cache_Lookup.p3.t (cache_Lookup.p3.s rows2 day4 i18 c5b out13 want14b) (.tup [.sref 0 46 5 (r.1).length, .sref 1 36 2 (r.2.1).length, .p (.int .i64 r.2.2)]) [(oL true 46 5 cCached dCached (r.1)), (oL true 36 2 cEntry dEntry (r.2.1))] := by
  intro k
  induction k with
  | zero => intro rows2 day4 i18 c5b out13 want14b r h; simp [cache_Lookup.p3] at h
  | succ k ih =>
    intro rows2 day4 i18 c5b out13 want14b r h
    rw [cache_Lookup.p3] at h
    rcases ite_or h with ⟨g_21, h⟩ | ⟨g_21, h⟩
    · obtain ⟨g_22, h⟩ := ite_some h
      obtain ⟨y_23, e_24, h⟩ := bind_or h
      rcases ite_or h with ⟨g_25, h⟩ | ⟨g_25, h⟩
      · exact RunC.go [.n 2, .r [(4, .dec true), (11, .call (.p (.int .i64 y_23)) []), (13, .dec true)], .n 6, .k [2, 4, 5, 13, 14, 18]] (by kernel_rfl) (Obs.of (by kernel_rfl) (And.intro g_21 (And.intro g_22 (And.intro (value_Compare.spec e_24) g_25)))) (ih _ _ _ _ _ _ r h)
      · obtain ⟨g_26, h⟩ := ite_some h
        obtain ⟨g_27, h⟩ := ite_some h
        obtain ⟨g_28, h⟩ := ite_some h
        obtain ⟨y_29, e_30, h⟩ := bind_or h
        obtain ⟨g_31, h⟩ := ite_some h
        obtain ⟨y_32, e_33, h⟩ := bind_or h
        obtain rfl := Option.some.inj h
        exact RunC.out [.n 2, .r [(4, .dec true), (11, .call (.p (.int .i64 y_23)) []), (13, .dec false)], .n 3, .r [(1, .fv (.agg [.p (.int .i64 0), .p (.int .i64 0), .p (.str (⟨#[]⟩ : ByteArray)), .p (eL 2 cEntry dEntry ([] : List TEntry)), .p (.int .i64 0)])), (2, .obj (oL true 46 5 cCached dCached [(TCached.mk (TValue.mk 0 0 (⟨#[]⟩ : ByteArray)) ([] : List TEntry) 0)])), (3, .obj (oL true 46 5 cCached dCached (out13 ++ ([(TCached.mk (TValue.mk 0 0 (⟨#[]⟩ : ByteArray)) ([] : List TEntry) 0)]))))], .n 1, .r [(7, .obj (oL true 46 5 cCached dCached (copyL (out13 ++ ([(TCached.mk (TValue.mk 0 0 (⟨#[]⟩ : ByteArray)) ([] : List TEntry) 0)])) (IntKind.i64.wrap (i18 + 1)) (((out13 ++ ([(TCached.mk (TValue.mk 0 0 (⟨#[]⟩ : ByteArray)) ([] : List TEntry) 0)]))).length : Int) (subL (out13 ++ ([(TCached.mk (TValue.mk 0 0 (⟨#[]⟩ : ByteArray)) ([] : List TEntry) 0)])) i18 (((out13 ++ ([(TCached.mk (TValue.mk 0 0 (⟨#[]⟩ : ByteArray)) ([] : List TEntry) 0)]))).length : Int)))))], .n 1, .r [(7, .call (.sref 0 36 2 (y_29).length) [(oL true 36 2 cEntry dEntry y_29)]), (11, .obj (oL true 46 5 cCached dCached ((copyL (out13 ++ ([(TCached.mk (TValue.mk 0 0 (⟨#[]⟩ : ByteArray)) ([] : List TEntry) 0)])) (IntKind.i64.wrap (i18 + 1)) (((out13 ++ ([(TCached.mk (TValue.mk 0 0 (⟨#[]⟩ : ByteArray)) ([] : List TEntry) 0)]))).length : Int) (subL (out13 ++ ([(TCached.mk (TValue.mk 0 0 (⟨#[]⟩ : ByteArray)) ([] : List TEntry) 0)])) i18 (((out13 ++ ([(TCached.mk (TValue.mk 0 0 (⟨#[]⟩ : ByteArray)) ([] : List TEntry) 0)]))).length : Int))).set i18.toNat (TCached.mk want14b y_29 day4))))], .n 1, .r [(6, .call (.sref 0 36 2 (y_32).length) [(oL true 36 2 cEntry dEntry y_32)])]] (by kernel_rfl) (Obs.of (by kernel_rfl) (And.intro g_21 (And.intro g_22 (And.intro (value_Compare.spec e_24) (And.intro (nt g_25) (And.intro (fle_agg (fls_cons (fle_rfl (.p (.int .i64 0))) (fls_cons (fle_rfl (.p (.int .i64 0))) (fls_cons (fle_rfl (.p (.str (⟨#[]⟩ : ByteArray)))) (fls_cons (fle_nil 2 cEntry dEntry) (fls_cons (fle_rfl (.p (.int .i64 0))) fls_nil)))))) (And.intro (le_one 46 5 cCached dCached (TCached.mk (TValue.mk 0 0 (⟨#[]⟩ : ByteArray)) ([] : List TEntry) 0)) (And.intro (And.intro g_26 (le_app 46 5 cCached dCached out13 ([(TCached.mk (TValue.mk 0 0 (⟨#[]⟩ : ByteArray)) ([] : List TEntry) 0)]))) (And.intro g_27 (And.intro g_28 (And.intro (le_copySS 46 5 cCached dCached (out13 ++ ([(TCached.mk (TValue.mk 0 0 (⟨#[]⟩ : ByteArray)) ([] : List TEntry) 0)])) (out13 ++ ([(TCached.mk (TValue.mk 0 0 (⟨#[]⟩ : ByteArray)) ([] : List TEntry) 0)])) (IntKind.i64.wrap (i18 + 1)) (((out13 ++ ([(TCached.mk (TValue.mk 0 0 (⟨#[]⟩ : ByteArray)) ([] : List TEntry) 0)]))).length : Int) i18 (((out13 ++ ([(TCached.mk (TValue.mk 0 0 (⟨#[]⟩ : ByteArray)) ([] : List TEntry) 0)]))).length : Int) g_27 g_28) (And.intro (cache_Select.spec e_30) (And.intro g_31 (And.intro (le_set 46 5 cCached dCached (copyL (out13 ++ ([(TCached.mk (TValue.mk 0 0 (⟨#[]⟩ : ByteArray)) ([] : List TEntry) 0)])) (IntKind.i64.wrap (i18 + 1)) (((out13 ++ ([(TCached.mk (TValue.mk 0 0 (⟨#[]⟩ : ByteArray)) ([] : List TEntry) 0)]))).length : Int) (subL (out13 ++ ([(TCached.mk (TValue.mk 0 0 (⟨#[]⟩ : ByteArray)) ([] : List TEntry) 0)])) i18 (((out13 ++ ([(TCached.mk (TValue.mk 0 0 (⟨#[]⟩ : ByteArray)) ([] : List TEntry) 0)]))).length : Int))) (TCached.mk want14b y_29 day4) i18.toNat rfl) (And.intro g_31 (cache_copied.spec e_33))))))))))))))))
    · obtain ⟨g_34, h⟩ := ite_some h
      obtain ⟨g_35, h⟩ := ite_some h
      obtain ⟨g_36, h⟩ := ite_some h
      obtain ⟨y_37, e_38, h⟩ := bind_or h
      obtain ⟨g_39, h⟩ := ite_some h
      obtain ⟨y_40, e_41, h⟩ := bind_or h
      obtain rfl := Option.some.inj h
      exact RunC.out [.n 2, .r [(4, .dec false)], .n 3, .r [(1, .fv (.agg [.p (.int .i64 0), .p (.int .i64 0), .p (.str (⟨#[]⟩ : ByteArray)), .p (eL 2 cEntry dEntry ([] : List TEntry)), .p (.int .i64 0)])), (2, .obj (oL true 46 5 cCached dCached [(TCached.mk (TValue.mk 0 0 (⟨#[]⟩ : ByteArray)) ([] : List TEntry) 0)])), (3, .obj (oL true 46 5 cCached dCached (out13 ++ ([(TCached.mk (TValue.mk 0 0 (⟨#[]⟩ : ByteArray)) ([] : List TEntry) 0)]))))], .n 1, .r [(7, .obj (oL true 46 5 cCached dCached (copyL (out13 ++ ([(TCached.mk (TValue.mk 0 0 (⟨#[]⟩ : ByteArray)) ([] : List TEntry) 0)])) (IntKind.i64.wrap (i18 + 1)) (((out13 ++ ([(TCached.mk (TValue.mk 0 0 (⟨#[]⟩ : ByteArray)) ([] : List TEntry) 0)]))).length : Int) (subL (out13 ++ ([(TCached.mk (TValue.mk 0 0 (⟨#[]⟩ : ByteArray)) ([] : List TEntry) 0)])) i18 (((out13 ++ ([(TCached.mk (TValue.mk 0 0 (⟨#[]⟩ : ByteArray)) ([] : List TEntry) 0)]))).length : Int)))))], .n 1, .r [(7, .call (.sref 0 36 2 (y_37).length) [(oL true 36 2 cEntry dEntry y_37)]), (11, .obj (oL true 46 5 cCached dCached ((copyL (out13 ++ ([(TCached.mk (TValue.mk 0 0 (⟨#[]⟩ : ByteArray)) ([] : List TEntry) 0)])) (IntKind.i64.wrap (i18 + 1)) (((out13 ++ ([(TCached.mk (TValue.mk 0 0 (⟨#[]⟩ : ByteArray)) ([] : List TEntry) 0)]))).length : Int) (subL (out13 ++ ([(TCached.mk (TValue.mk 0 0 (⟨#[]⟩ : ByteArray)) ([] : List TEntry) 0)])) i18 (((out13 ++ ([(TCached.mk (TValue.mk 0 0 (⟨#[]⟩ : ByteArray)) ([] : List TEntry) 0)]))).length : Int))).set i18.toNat (TCached.mk want14b y_37 day4))))], .n 1, .r [(6, .call (.sref 0 36 2 (y_40).length) [(oL true 36 2 cEntry dEntry y_40)])]] (by kernel_rfl) (Obs.of (by kernel_rfl) (And.intro (nt g_21) (And.intro (fle_agg (fls_cons (fle_rfl (.p (.int .i64 0))) (fls_cons (fle_rfl (.p (.int .i64 0))) (fls_cons (fle_rfl (.p (.str (⟨#[]⟩ : ByteArray)))) (fls_cons (fle_nil 2 cEntry dEntry) (fls_cons (fle_rfl (.p (.int .i64 0))) fls_nil)))))) (And.intro (le_one 46 5 cCached dCached (TCached.mk (TValue.mk 0 0 (⟨#[]⟩ : ByteArray)) ([] : List TEntry) 0)) (And.intro (And.intro g_34 (le_app 46 5 cCached dCached out13 ([(TCached.mk (TValue.mk 0 0 (⟨#[]⟩ : ByteArray)) ([] : List TEntry) 0)]))) (And.intro g_35 (And.intro g_36 (And.intro (le_copySS 46 5 cCached dCached (out13 ++ ([(TCached.mk (TValue.mk 0 0 (⟨#[]⟩ : ByteArray)) ([] : List TEntry) 0)])) (out13 ++ ([(TCached.mk (TValue.mk 0 0 (⟨#[]⟩ : ByteArray)) ([] : List TEntry) 0)])) (IntKind.i64.wrap (i18 + 1)) (((out13 ++ ([(TCached.mk (TValue.mk 0 0 (⟨#[]⟩ : ByteArray)) ([] : List TEntry) 0)]))).length : Int) i18 (((out13 ++ ([(TCached.mk (TValue.mk 0 0 (⟨#[]⟩ : ByteArray)) ([] : List TEntry) 0)]))).length : Int) g_35 g_36) (And.intro (cache_Select.spec e_38) (And.intro g_39 (And.intro (le_set 46 5 cCached dCached (copyL (out13 ++ ([(TCached.mk (TValue.mk 0 0 (⟨#[]⟩ : ByteArray)) ([] : List TEntry) 0)])) (IntKind.i64.wrap (i18 + 1)) (((out13 ++ ([(TCached.mk (TValue.mk 0 0 (⟨#[]⟩ : ByteArray)) ([] : List TEntry) 0)]))).length : Int) (subL (out13 ++ ([(TCached.mk (TValue.mk 0 0 (⟨#[]⟩ : ByteArray)) ([] : List TEntry) 0)])) i18 (((out13 ++ ([(TCached.mk (TValue.mk 0 0 (⟨#[]⟩ : ByteArray)) ([] : List TEntry) 0)]))).length : Int))) (TCached.mk want14b y_37 day4) i18.toNat rfl) (And.intro g_39 (cache_copied.spec e_41)))))))))))))
theorem cache_Lookup.p2.run   : ∀ (k : Nat) (rows2 : (List TEntry)) (day4 : Int) (oldest16 : Int) (i17 : Int) (c5b : TCache) (out13 : (List TCached)) (want14b : TValue) (r : ((List TCached) × (List TEntry) × Int)), cache_Lookup.p2 k rows2 day4 oldest16 i17 c5b out13 want14b = some r → RunC Try.prog Try.f17 cache_Lookup.p2.t (cache_Lookup.p2.s rows2 day4 oldest16 i17 c5b out13 want14b) (.tup [.sref 0 46 5 (r.1).length, .sref 1 36 2 (r.2.1).length, .p (.int .i64 r.2.2)]) [(oL true 46 5 cCached dCached (r.1)), (oL true 36 2 cEntry dEntry (r.2.1))] := by
  intro k
  induction k with
  | zero => intro rows2 day4 oldest16 i17 c5b out13 want14b r h; simp [cache_Lookup.p2] at h
  | succ k ih =>
    intro rows2 day4 oldest16 i17 c5b out13 want14b r h
    rw [cache_Lookup.p2] at h
    rcases ite_or h with ⟨g_14, h⟩ | ⟨g_14, h⟩
    · obtain ⟨g_15, h⟩ := ite_some h
      obtain ⟨g_16, h⟩ := ite_some h
      rcases ite_or h with ⟨g_17, h⟩ | ⟨g_17, h⟩
      · exact RunC.go [.n 2, .r [(3, .dec true)], .n 5, .r [(10, .dec true)], .n 5, .k [2, 4, 5, 13, 14, 16, 17]] (by kernel_rfl) (Obs.of (by kernel_rfl) (And.intro g_14 (And.intro g_15 (And.intro g_16 g_17)))) (ih _ _ _ _ _ _ _ r h)
      · exact RunC.go [.n 2, .r [(3, .dec true)], .n 5, .r [(10, .dec false)], .n 5, .k [2, 4, 5, 13, 14, 16, 17]] (by kernel_rfl) (Obs.of (by kernel_rfl) (And.intro g_14 (And.intro g_15 (And.intro g_16 (nt g_17))))) (ih _ _ _ _ _ _ _ r h)
    · obtain ⟨g_18, h⟩ := ite_some h
      obtain ⟨g_19, h⟩ := ite_some h
      obtain ⟨g_20, h⟩ := ite_some h
      exact RunC.go [.n 2, .r [(3, .dec false)], .n 2, .r [(7, .obj (oL true 46 5 cCached dCached (subL out13 0 oldest16 ++ subL out13 (IntKind.i64.wrap (oldest16 + 1)) ((out13).length : Int))))], .n 5, .k [2, 4, 5, 13, 14, 18]] (by kernel_rfl) (Obs.of (by kernel_rfl) (And.intro (nt g_14) (And.intro g_18 (And.intro g_19 (And.intro g_20 (le_appSS 46 5 cCached dCached out13 out13 oldest16 (IntKind.i64.wrap (oldest16 + 1)) ((out13).length : Int) g_18 g_19)))))) (cache_Lookup.p3.run k _ _ _ _ _ _ r h)
theorem cache_Lookup.p1.run   : ∀ (k : Nat) (rows2 : (List TEntry)) (day4 : Int) (i15 : Int) (c5b : TCache) (out13 : (List TCached)) (want14b : TValue) (r : ((List TCached) × (List TEntry) × Int)), cache_Lookup.p1 k rows2 day4 i15 c5b out13 want14b = some r → RunC Try.prog Try.f17 cache_Lookup.p1.t (cache_Lookup.p1.s rows2 day4 i15 c5b out13 want14b) (.tup [.sref 0 46 5 (r.1).length, .sref 1 36 2 (r.2.1).length, .p (.int .i64 r.2.2)]) [(oL true 46 5 cCached dCached (r.1)), (oL true 36 2 cEntry dEntry (r.2.1))] := by
  intro k
  induction k with
  | zero => intro rows2 day4 i15 c5b out13 want14b r h; simp [cache_Lookup.p1] at h
  | succ k ih =>
    intro rows2 day4 i15 c5b out13 want14b r h
    rw [cache_Lookup.p1] at h
    rcases ite_or h with ⟨g_8, h⟩ | ⟨g_8, h⟩
    · obtain ⟨g_9, h⟩ := ite_some h
      rcases ite_or h with ⟨g_10, h⟩ | ⟨g_10, h⟩
      · obtain ⟨y_11, e_12, h⟩ := bind_or h
        obtain rfl := Option.some.inj h
        exact RunC.out [.n 2, .r [(3, .dec true)], .n 5, .r [(6, .dec true)], .n 2, .r [(6, .call (.sref 0 36 2 (y_11).length) [(oL true 36 2 cEntry dEntry y_11)])]] (by kernel_rfl) (Obs.of (by kernel_rfl) (And.intro g_8 (And.intro g_9 (And.intro g_10 (And.intro g_9 (cache_copied.spec e_12))))))
      · exact RunC.go [.n 2, .r [(3, .dec true)], .n 5, .r [(6, .dec false)], .n 5, .k [2, 4, 5, 13, 14, 15]] (by kernel_rfl) (Obs.of (by kernel_rfl) (And.intro g_8 (And.intro g_9 (nt g_10)))) (ih _ _ _ _ _ _ r h)
    · rcases ite_or h with ⟨g_13, h⟩ | ⟨g_13, h⟩
      · exact RunC.go [.n 2, .r [(3, .dec false)], .n 4, .r [(2, .dec true)], .n 8, .k [2, 4, 5, 13, 14, 16, 17]] (by kernel_rfl) (Obs.of (by kernel_rfl) (And.intro (nt g_8) g_13)) (cache_Lookup.p2.run k _ _ _ _ _ _ _ r h)
      · exact RunC.go [.n 2, .r [(3, .dec false)], .n 4, .r [(2, .dec false)], .n 7, .k [2, 4, 5, 13, 14, 18]] (by kernel_rfl) (Obs.of (by kernel_rfl) (And.intro (nt g_8) (nt g_13))) (cache_Lookup.p3.run k _ _ _ _ _ _ r h)
theorem cache_Lookup.run   {k : Nat} {c0 : TCache} {s1 : (List TCached)} {rows2 : (List TEntry)} {v3 : TValue} {day4 : Int} {r : ((List TCached) × (List TEntry) × Int)} (h : cache_Lookup k c0 s1 rows2 v3 day4 = some r) : RunC Try.prog Try.f17 cache_Lookup.t (cache_Lookup.s c0 s1 rows2 v3 day4) (.tup [.sref 0 46 5 (r.1).length, .sref 1 36 2 (r.2.1).length, .p (.int .i64 r.2.2)]) [(oL true 46 5 cCached dCached (r.1)), (oL true 36 2 cEntry dEntry (r.2.1))] := by
  unfold cache_Lookup at h
  obtain ⟨y_1, e_2, h⟩ := bind_or h
  rcases ite_or h with ⟨g_3, h⟩ | ⟨g_3, h⟩
  · obtain rfl := Option.some.inj h
    exact RunC.out [.n 1, .r [(2, .obj (oL true 46 5 cCached dCached ([] : List TCached))), (3, .obj (oL true 36 2 cEntry dEntry ([] : List TEntry)))], .n 2, .r [(4, .call (.p (.bool y_1)) []), (5, .dec true)], .n 2, .r [(0, .obj (oL true 46 5 cCached dCached ([] : List TCached))), (1, .obj (oL true 36 2 cEntry dEntry ([] : List TEntry)))]] (by kernel_rfl) (Obs.of (by kernel_rfl) (And.intro (le_nil 46 5 cCached dCached) (And.intro (le_nil 36 2 cEntry dEntry) (And.intro (cache_usable.spec e_2) (And.intro g_3 (And.intro (le_nil 46 5 cCached dCached) (le_nil 36 2 cEntry dEntry)))))))
  · obtain ⟨y_4, e_5, h⟩ := bind_or h
    obtain ⟨y_6, e_7, h⟩ := bind_or h
    exact RunC.go [.n 1, .r [(2, .obj (oL true 46 5 cCached dCached ([] : List TCached))), (3, .obj (oL true 36 2 cEntry dEntry ([] : List TEntry)))], .n 2, .r [(4, .call (.p (.bool y_1)) []), (5, .dec false)], .n 3, .r [(3, .call (.sref 0 46 5 (y_4).length) [(oL true 46 5 cCached dCached y_4)])], .n 1, .r [(1, .call (.agg ((cValue y_6).map .p)) [])], .n 5, .k [2, 4, 5, 13, 14, 15]] (by kernel_rfl) (Obs.of (by kernel_rfl) (And.intro (le_nil 46 5 cCached dCached) (And.intro (le_nil 36 2 cEntry dEntry) (And.intro (cache_usable.spec e_2) (And.intro (nt g_3) (And.intro (cache_Expire.spec e_5) (value_Clean.spec e_7))))))) (cache_Lookup.p1.run k _ _ _ _ _ _ r h)
theorem cache_Lookup.p3.mono   : ∀ (k k' : Nat) (rows2 : (List TEntry)) (day4 : Int) (i18 : Int) (c5b : TCache) (out13 : (List TCached)) (want14b : TValue) (r : ((List TCached) × (List TEntry) × Int)), k ≤ k' → cache_Lookup.p3 k rows2 day4 i18 c5b out13 want14b = some r → cache_Lookup.p3 k' rows2 day4 i18 c5b out13 want14b = some r := by
  intro k
  induction k with
  | zero => intro k' rows2 day4 i18 c5b out13 want14b r hk h; simp [cache_Lookup.p3] at h
  | succ k ih =>
    intro k' rows2 day4 i18 c5b out13 want14b r hk h
    obtain ⟨k', rfl⟩ : ∃ m, k' = m + 1 := ⟨k' - 1, by omega⟩
    replace hk := Nat.le_of_succ_le_succ hk
    rw [cache_Lookup.p3] at h ⊢
    rcases ite_or h with ⟨g_21, h⟩ | ⟨g_21, h⟩
    · refine itp g_21 ?_
      obtain ⟨g_22, h⟩ := ite_some h
      refine itp g_22 ?_
      obtain ⟨y_23, e_24, h⟩ := bind_or h
      refine bnd (value_Compare.mono _ _ _ _ _ hk e_24) ?_
      rcases ite_or h with ⟨g_25, h⟩ | ⟨g_25, h⟩
      · refine itp g_25 ?_
        exact ih _ _ _ _ _ _ _ r hk h
      · refine itn g_25 ?_
        obtain ⟨g_26, h⟩ := ite_some h
        refine itp g_26 ?_
        obtain ⟨g_27, h⟩ := ite_some h
        refine itp g_27 ?_
        obtain ⟨g_28, h⟩ := ite_some h
        refine itp g_28 ?_
        obtain ⟨y_29, e_30, h⟩ := bind_or h
        refine bnd (cache_Select.mono _ _ _ _ _ _ hk e_30) ?_
        obtain ⟨g_31, h⟩ := ite_some h
        refine itp g_31 ?_
        obtain ⟨y_32, e_33, h⟩ := bind_or h
        refine bnd (cache_copied.mono _ _ _ _ hk e_33) ?_
        exact h
    · refine itn g_21 ?_
      obtain ⟨g_34, h⟩ := ite_some h
      refine itp g_34 ?_
      obtain ⟨g_35, h⟩ := ite_some h
      refine itp g_35 ?_
      obtain ⟨g_36, h⟩ := ite_some h
      refine itp g_36 ?_
      obtain ⟨y_37, e_38, h⟩ := bind_or h
      refine bnd (cache_Select.mono _ _ _ _ _ _ hk e_38) ?_
      obtain ⟨g_39, h⟩ := ite_some h
      refine itp g_39 ?_
      obtain ⟨y_40, e_41, h⟩ := bind_or h
      refine bnd (cache_copied.mono _ _ _ _ hk e_41) ?_
      exact h
theorem cache_Lookup.p2.mono   : ∀ (k k' : Nat) (rows2 : (List TEntry)) (day4 : Int) (oldest16 : Int) (i17 : Int) (c5b : TCache) (out13 : (List TCached)) (want14b : TValue) (r : ((List TCached) × (List TEntry) × Int)), k ≤ k' → cache_Lookup.p2 k rows2 day4 oldest16 i17 c5b out13 want14b = some r → cache_Lookup.p2 k' rows2 day4 oldest16 i17 c5b out13 want14b = some r := by
  intro k
  induction k with
  | zero => intro k' rows2 day4 oldest16 i17 c5b out13 want14b r hk h; simp [cache_Lookup.p2] at h
  | succ k ih =>
    intro k' rows2 day4 oldest16 i17 c5b out13 want14b r hk h
    obtain ⟨k', rfl⟩ : ∃ m, k' = m + 1 := ⟨k' - 1, by omega⟩
    replace hk := Nat.le_of_succ_le_succ hk
    rw [cache_Lookup.p2] at h ⊢
    rcases ite_or h with ⟨g_14, h⟩ | ⟨g_14, h⟩
    · refine itp g_14 ?_
      obtain ⟨g_15, h⟩ := ite_some h
      refine itp g_15 ?_
      obtain ⟨g_16, h⟩ := ite_some h
      refine itp g_16 ?_
      rcases ite_or h with ⟨g_17, h⟩ | ⟨g_17, h⟩
      · refine itp g_17 ?_
        exact ih _ _ _ _ _ _ _ _ r hk h
      · refine itn g_17 ?_
        exact ih _ _ _ _ _ _ _ _ r hk h
    · refine itn g_14 ?_
      obtain ⟨g_18, h⟩ := ite_some h
      refine itp g_18 ?_
      obtain ⟨g_19, h⟩ := ite_some h
      refine itp g_19 ?_
      obtain ⟨g_20, h⟩ := ite_some h
      refine itp g_20 ?_
      exact cache_Lookup.p3.mono _ _ _ _ _ _ _ _ r hk h
theorem cache_Lookup.p1.mono   : ∀ (k k' : Nat) (rows2 : (List TEntry)) (day4 : Int) (i15 : Int) (c5b : TCache) (out13 : (List TCached)) (want14b : TValue) (r : ((List TCached) × (List TEntry) × Int)), k ≤ k' → cache_Lookup.p1 k rows2 day4 i15 c5b out13 want14b = some r → cache_Lookup.p1 k' rows2 day4 i15 c5b out13 want14b = some r := by
  intro k
  induction k with
  | zero => intro k' rows2 day4 i15 c5b out13 want14b r hk h; simp [cache_Lookup.p1] at h
  | succ k ih =>
    intro k' rows2 day4 i15 c5b out13 want14b r hk h
    obtain ⟨k', rfl⟩ : ∃ m, k' = m + 1 := ⟨k' - 1, by omega⟩
    replace hk := Nat.le_of_succ_le_succ hk
    rw [cache_Lookup.p1] at h ⊢
    rcases ite_or h with ⟨g_8, h⟩ | ⟨g_8, h⟩
    · refine itp g_8 ?_
      obtain ⟨g_9, h⟩ := ite_some h
      refine itp g_9 ?_
      rcases ite_or h with ⟨g_10, h⟩ | ⟨g_10, h⟩
      · refine itp g_10 ?_
        obtain ⟨y_11, e_12, h⟩ := bind_or h
        refine bnd (cache_copied.mono _ _ _ _ hk e_12) ?_
        exact h
      · refine itn g_10 ?_
        exact ih _ _ _ _ _ _ _ r hk h
    · refine itn g_8 ?_
      rcases ite_or h with ⟨g_13, h⟩ | ⟨g_13, h⟩
      · refine itp g_13 ?_
        exact cache_Lookup.p2.mono _ _ _ _ _ _ _ _ _ r hk h
      · refine itn g_13 ?_
        exact cache_Lookup.p3.mono _ _ _ _ _ _ _ _ r hk h
theorem cache_Lookup.mono   : ∀ (k k' : Nat) (c0 : TCache) (s1 : (List TCached)) (rows2 : (List TEntry)) (v3 : TValue) (day4 : Int) (r : ((List TCached) × (List TEntry) × Int)), k ≤ k' → cache_Lookup k c0 s1 rows2 v3 day4 = some r → cache_Lookup k' c0 s1 rows2 v3 day4 = some r := by
  intro k k' c0 s1 rows2 v3 day4 r hk h
  unfold cache_Lookup at h ⊢
  obtain ⟨y_1, e_2, h⟩ := bind_or h
  refine bnd (cache_usable.mono _ _ _ _ _ _ _ hk e_2) ?_
  rcases ite_or h with ⟨g_3, h⟩ | ⟨g_3, h⟩
  · refine itp g_3 ?_
    exact h
  · refine itn g_3 ?_
    obtain ⟨y_4, e_5, h⟩ := bind_or h
    refine bnd (cache_Expire.mono _ _ _ _ _ _ hk e_5) ?_
    obtain ⟨y_6, e_7, h⟩ := bind_or h
    refine bnd (value_Clean.mono _ _ _ _ hk e_7) ?_
    exact cache_Lookup.p1.mono _ _ _ _ _ _ _ _ r hk h
theorem cache_Lookup.spec {k : Nat} {c0 : TCache} {s1 : (List TCached)} {rows2 : (List TEntry)} {v3 : TValue} {day4 : Int} {r : ((List TCached) × (List TEntry) × Int)} (h : cache_Lookup k c0 s1 rows2 v3 day4 = some r) : Spec Try.prog 17 [.agg ((cCache c0).map .p), .p (eL 5 cCached dCached s1), .p (eL 2 cEntry dEntry rows2), .agg ((cValue v3).map .p), .p (.int .i64 day4)] (.tup [.sref 0 46 5 (r.1).length, .sref 1 36 2 (r.2.1).length, .p (.int .i64 r.2.2)]) [(oL true 46 5 cCached dCached (r.1)), (oL true 36 2 cEntry dEntry (r.2.1))] :=
  spec_of mix Try.func17 (body := bodyOf Try.f17) (by kernel_rfl) (by kernel_rfl) (cache_Lookup.run h)
end Go.Proofs.YtjhnpaenhdbhpabV
set_option linter.unusedVariables false
set_option linter.unusedSimpArgs false
set_option maxRecDepth 100000
namespace Go.Proofs.YtjhnpaenhdbhpabV
open Go Go.RowKit
noncomputable def erasureref01_Valid  (k : Nat) (v0 : TValue) : Option Bool := if (v0.f0 == 0) = true then (if (v0.f1 == 0) = true then (some (v0.f2.data.toList == (⟨#[]⟩ : ByteArray).data.toList)) else (some false)) else (if (v0.f0 == 1) = true then (if (decide (v0.f1 ≥ (-4294967296))) = true then (if (decide (v0.f1 ≤ 4294967296)) = true then (some (v0.f2.data.toList == (⟨#[]⟩ : ByteArray).data.toList)) else (some false)) else (some false)) else (if (v0.f0 == 2) = true then (if (v0.f1 == 0) = true then (some (decide ((v0.f2.size : Int) ≤ 32))) else (some false)) else (some false)))
noncomputable def erasureref01_Valid.t : List Item := [.code (bodyOf Try.f41)]
noncomputable def erasureref01_Valid.s (v0 : TValue) : St := ⟨frOf Try.f41.ntmps 0 [(0, .agg ((cValue v0).map .p))], []⟩
theorem erasureref01_Valid.run   {k : Nat} {v0 : TValue} {r : Bool} (h : erasureref01_Valid k v0 = some r) : RunC Try.prog Try.f41 erasureref01_Valid.t (erasureref01_Valid.s v0) (.p (.bool r)) [] := by
  unfold erasureref01_Valid at h
  rcases ite_or h with ⟨g_1, h⟩ | ⟨g_1, h⟩
  · rcases ite_or h with ⟨g_2, h⟩ | ⟨g_2, h⟩
    · obtain rfl := Option.some.inj h
      exact RunC.out [.n 7, .r [(1, .dec true)], .n 2, .r [(3, .dec true)]] (by kernel_rfl) (Obs.of (by kernel_rfl) (And.intro g_1 g_2))
    · obtain rfl := Option.some.inj h
      exact RunC.out [.n 7, .r [(1, .dec true)], .n 2, .r [(3, .dec false)]] (by kernel_rfl) (Obs.of (by kernel_rfl) (And.intro g_1 (nt g_2)))
  · rcases ite_or h with ⟨g_3, h⟩ | ⟨g_3, h⟩
    · rcases ite_or h with ⟨g_4, h⟩ | ⟨g_4, h⟩
      · rcases ite_or h with ⟨g_5, h⟩ | ⟨g_5, h⟩
        · obtain rfl := Option.some.inj h
          exact RunC.out [.n 7, .r [(1, .dec false)], .n 2, .r [(1, .dec true)], .n 2, .r [(3, .dec true), (8, .dec true)]] (by kernel_rfl) (Obs.of (by kernel_rfl) (And.intro (nt g_1) (And.intro g_3 (And.intro g_4 g_5))))
        · obtain rfl := Option.some.inj h
          exact RunC.out [.n 7, .r [(1, .dec false)], .n 2, .r [(1, .dec true)], .n 2, .r [(3, .dec true), (8, .dec false)]] (by kernel_rfl) (Obs.of (by kernel_rfl) (And.intro (nt g_1) (And.intro g_3 (And.intro g_4 (nt g_5)))))
      · obtain rfl := Option.some.inj h
        exact RunC.out [.n 7, .r [(1, .dec false)], .n 2, .r [(1, .dec true)], .n 2, .r [(3, .dec false)]] (by kernel_rfl) (Obs.of (by kernel_rfl) (And.intro (nt g_1) (And.intro g_3 (nt g_4))))
    · rcases ite_or h with ⟨g_6, h⟩ | ⟨g_6, h⟩
      · rcases ite_or h with ⟨g_7, h⟩ | ⟨g_7, h⟩
        · obtain rfl := Option.some.inj h
          exact RunC.out [.n 7, .r [(1, .dec false)], .n 2, .r [(1, .dec false)], .n 2, .r [(1, .dec true)], .n 2, .r [(3, .dec true)]] (by kernel_rfl) (Obs.of (by kernel_rfl) (And.intro (nt g_1) (And.intro (nt g_3) (And.intro g_6 g_7))))
        · obtain rfl := Option.some.inj h
          exact RunC.out [.n 7, .r [(1, .dec false)], .n 2, .r [(1, .dec false)], .n 2, .r [(1, .dec true)], .n 2, .r [(3, .dec false)]] (by kernel_rfl) (Obs.of (by kernel_rfl) (And.intro (nt g_1) (And.intro (nt g_3) (And.intro g_6 (nt g_7)))))
      · obtain rfl := Option.some.inj h
        exact RunC.out [.n 7, .r [(1, .dec false)], .n 2, .r [(1, .dec false)], .n 2, .r [(1, .dec false)], .n 5] (by kernel_rfl) (Obs.of (by kernel_rfl) (And.intro (nt g_1) (And.intro (nt g_3) (nt g_6))))
theorem erasureref01_Valid.mono   : ∀ (k k' : Nat) (v0 : TValue) (r : Bool), k ≤ k' → erasureref01_Valid k v0 = some r → erasureref01_Valid k' v0 = some r := by
  intro k k' v0 r hk h
  unfold erasureref01_Valid at h ⊢
  rcases ite_or h with ⟨g_1, h⟩ | ⟨g_1, h⟩
  · refine itp g_1 ?_
    rcases ite_or h with ⟨g_2, h⟩ | ⟨g_2, h⟩
    · refine itp g_2 ?_
      exact h
    · refine itn g_2 ?_
      exact h
  · refine itn g_1 ?_
    rcases ite_or h with ⟨g_3, h⟩ | ⟨g_3, h⟩
    · refine itp g_3 ?_
      rcases ite_or h with ⟨g_4, h⟩ | ⟨g_4, h⟩
      · refine itp g_4 ?_
        rcases ite_or h with ⟨g_5, h⟩ | ⟨g_5, h⟩
        · refine itp g_5 ?_
          exact h
        · refine itn g_5 ?_
          exact h
      · refine itn g_4 ?_
        exact h
    · refine itn g_3 ?_
      rcases ite_or h with ⟨g_6, h⟩ | ⟨g_6, h⟩
      · refine itp g_6 ?_
        rcases ite_or h with ⟨g_7, h⟩ | ⟨g_7, h⟩
        · refine itp g_7 ?_
          exact h
        · refine itn g_7 ?_
          exact h
      · refine itn g_6 ?_
        exact h
theorem erasureref01_Valid.spec {k : Nat} {v0 : TValue} {r : Bool} (h : erasureref01_Valid k v0 = some r) : Spec Try.prog 41 [.agg ((cValue v0).map .p)] (.p (.bool r)) [] :=
  spec_of mix Try.func41 (body := bodyOf Try.f41) (by kernel_rfl) (by kernel_rfl) (erasureref01_Valid.run h)
end Go.Proofs.YtjhnpaenhdbhpabV
set_option linter.unusedVariables false
set_option linter.unusedSimpArgs false
set_option maxRecDepth 100000
namespace Go.Proofs.YtjhnpaenhdbhpabV
open Go Go.RowKit
noncomputable def erasureref01_Clean.p1  (k : Nat) (v1b : TValue) (v2b : TValue) : Option TValue := some v1b
noncomputable def erasureref01_Clean.p2  (k : Nat) (v2b : TValue) : Option TValue := some (TValue.mk 0 0 (⟨#[]⟩ : ByteArray))
noncomputable def erasureref01_Clean  (k : Nat) (v0 : TValue) : Option TValue := (erasureref01_Valid k v0).bind fun y_1 => if y_1 = true then (erasureref01_Clean.p1 k v0 (TValue.mk 0 0 (⟨#[]⟩ : ByteArray))) else (erasureref01_Clean.p2 k (TValue.mk 0 0 (⟨#[]⟩ : ByteArray)))
noncomputable def erasureref01_Clean.t : List Item := [.code (bodyOf Try.f16)]
noncomputable def erasureref01_Clean.s (v0 : TValue) : St := ⟨frOf Try.f16.ntmps 0 [(0, .agg ((cValue v0).map .p))], []⟩
noncomputable def erasureref01_Clean.p1.t : List Item := nav 6 [true] erasureref01_Clean.t
noncomputable def erasureref01_Clean.p1.s (v1b : TValue) (v2b : TValue) : St := ⟨frOf Try.f16.ntmps 0 [(1, .ptr 0 0 0), (2, .ptr 1 0 0)], [.box ((cValue v1b).map .p), .box ((cValue v2b).map .p)]⟩
noncomputable def erasureref01_Clean.p2.t : List Item := nav 6 [false] erasureref01_Clean.t
noncomputable def erasureref01_Clean.p2.s (v2b : TValue) : St := ⟨frOf Try.f16.ntmps 0 [(2, .ptr 0 0 0)], [.box ((cValue v2b).map .p)]⟩
theorem erasureref01_Clean.p1.run   {k : Nat} {v1b : TValue} {v2b : TValue} {r : TValue} (h : erasureref01_Clean.p1 k v1b v2b = some r) : RunC Try.prog Try.f16 erasureref01_Clean.p1.t (erasureref01_Clean.p1.s v1b v2b) (.agg ((cValue r).map .p)) [] := by
  unfold erasureref01_Clean.p1 at h
  obtain rfl := Option.some.inj h
  exact RunC.out [.n 2] (by kernel_rfl) (Obs.tt (by kernel_rfl))
theorem erasureref01_Clean.p2.run   {k : Nat} {v2b : TValue} {r : TValue} (h : erasureref01_Clean.p2 k v2b = some r) : RunC Try.prog Try.f16 erasureref01_Clean.p2.t (erasureref01_Clean.p2.s v2b) (.agg ((cValue r).map .p)) [] := by
  unfold erasureref01_Clean.p2 at h
  obtain rfl := Option.some.inj h
  exact RunC.out [.n 3] (by kernel_rfl) (Obs.tt (by kernel_rfl))
theorem erasureref01_Clean.run   {k : Nat} {v0 : TValue} {r : TValue} (h : erasureref01_Clean k v0 = some r) : RunC Try.prog Try.f16 erasureref01_Clean.t (erasureref01_Clean.s v0) (.agg ((cValue r).map .p)) [] := by
  unfold erasureref01_Clean at h
  obtain ⟨y_1, e_2, h⟩ := bind_or h
  rcases Bool.eq_false_or_eq_true y_1 with hb | hb <;> subst hb
  · rw [if_pos rfl] at h
    exact RunC.go [.n 4, .r [(1, .call (.p (.bool true)) [])], .n 1, .k [1, 2]] (by kernel_rfl) (Obs.of (by kernel_rfl) (erasureref01_Valid.spec e_2)) (erasureref01_Clean.p1.run h)
  · rw [if_neg (by decide)] at h
    exact RunC.go [.n 4, .r [(1, .call (.p (.bool false)) [])], .n 1, .k [2]] (by kernel_rfl) (Obs.of (by kernel_rfl) (erasureref01_Valid.spec e_2)) (erasureref01_Clean.p2.run h)
theorem erasureref01_Clean.p1.mono   : ∀ (k k' : Nat) (v1b : TValue) (v2b : TValue) (r : TValue), k ≤ k' → erasureref01_Clean.p1 k v1b v2b = some r → erasureref01_Clean.p1 k' v1b v2b = some r := by
  intro k k' v1b v2b r hk h
  unfold erasureref01_Clean.p1 at h ⊢
  exact h
theorem erasureref01_Clean.p2.mono   : ∀ (k k' : Nat) (v2b : TValue) (r : TValue), k ≤ k' → erasureref01_Clean.p2 k v2b = some r → erasureref01_Clean.p2 k' v2b = some r := by
  intro k k' v2b r hk h
  unfold erasureref01_Clean.p2 at h ⊢
  exact h
theorem erasureref01_Clean.mono   : ∀ (k k' : Nat) (v0 : TValue) (r : TValue), k ≤ k' → erasureref01_Clean k v0 = some r → erasureref01_Clean k' v0 = some r := by
  intro k k' v0 r hk h
  unfold erasureref01_Clean at h ⊢
  obtain ⟨y_1, e_2, h⟩ := bind_or h
  refine bnd (erasureref01_Valid.mono _ _ _ _ hk e_2) ?_
  rcases ite_or h with ⟨hb, h⟩ | ⟨hb, h⟩
  · refine itp hb ?_
    exact erasureref01_Clean.p1.mono _ _ _ _ r hk h
  · refine itn hb ?_
    exact erasureref01_Clean.p2.mono _ _ _ r hk h
theorem erasureref01_Clean.spec {k : Nat} {v0 : TValue} {r : TValue} (h : erasureref01_Clean k v0 = some r) : Spec Try.prog 16 [.agg ((cValue v0).map .p)] (.agg ((cValue r).map .p)) [] :=
  spec_of mix Try.func16 (body := bodyOf Try.f16) (by kernel_rfl) (by kernel_rfl) (erasureref01_Clean.run h)
end Go.Proofs.YtjhnpaenhdbhpabV
set_option linter.unusedVariables false
set_option linter.unusedSimpArgs false
set_option maxRecDepth 100000
namespace Go.Proofs.YtjhnpaenhdbhpabV
open Go Go.RowKit
noncomputable def erasureref01_Int  (k : Nat) (n0 : Int) : Option TValue := (erasureref01_Clean k (TValue.mk 1 n0 (⟨#[]⟩ : ByteArray))).bind fun y_1 => (some y_1)
noncomputable def erasureref01_Int.t : List Item := [.code (bodyOf Try.f18)]
noncomputable def erasureref01_Int.s (n0 : Int) : St := ⟨frOf Try.f18.ntmps 0 [(0, .p (.int .i64 n0))], []⟩
theorem erasureref01_Int.run   {k : Nat} {n0 : Int} {r : TValue} (h : erasureref01_Int k n0 = some r) : RunC Try.prog Try.f18 erasureref01_Int.t (erasureref01_Int.s n0) (.agg ((cValue r).map .p)) [] := by
  unfold erasureref01_Int at h
  obtain ⟨y_1, e_2, h⟩ := bind_or h
  obtain rfl := Option.some.inj h
  exact RunC.out [.n 3, .r [(2, .call (.agg ((cValue y_1).map .p)) [])]] (by kernel_rfl) (Obs.of (by kernel_rfl) (erasureref01_Clean.spec e_2))
theorem erasureref01_Int.mono   : ∀ (k k' : Nat) (n0 : Int) (r : TValue), k ≤ k' → erasureref01_Int k n0 = some r → erasureref01_Int k' n0 = some r := by
  intro k k' n0 r hk h
  unfold erasureref01_Int at h ⊢
  obtain ⟨y_1, e_2, h⟩ := bind_or h
  refine bnd (erasureref01_Clean.mono _ _ _ _ hk e_2) ?_
  exact h
theorem erasureref01_Int.spec {k : Nat} {n0 : Int} {r : TValue} (h : erasureref01_Int k n0 = some r) : Spec Try.prog 18 [.p (.int .i64 n0)] (.agg ((cValue r).map .p)) [] :=
  spec_of mix Try.func18 (body := bodyOf Try.f18) (by kernel_rfl) (by kernel_rfl) (erasureref01_Int.run h)
end Go.Proofs.YtjhnpaenhdbhpabV
set_option linter.unusedVariables false
set_option linter.unusedSimpArgs false
set_option maxRecDepth 100000
namespace Go.Proofs.YtjhnpaenhdbhpabV
open Go Go.RowKit
noncomputable def erasurelaw30_awake  (k : Nat)  : Option Bool := (erasureref01_Int k 7).bind fun y_1 => ((cache_Lookup k (TCache.mk (⟨#[]⟩ : ByteArray) (⟨#[]⟩ : ByteArray) 0 2) ([] : List TCached) ([(TEntry.mk ([y_1]) 3)]) y_1 5).bind fun y_3 => ((cache_Lookup k (TCache.mk (⟨#[]⟩ : ByteArray) (⟨#[]⟩ : ByteArray) 0 2) y_3.1 ([] : List TEntry) y_1 6).bind fun y_5 => ((cache_Lookup k (TCache.mk (⟨#[]⟩ : ByteArray) (⟨#[]⟩ : ByteArray) 0 2) y_5.1 ([] : List TEntry) y_1 7).bind fun y_7 => (if (y_3.2.2 == 0) = true then (if (y_5.2.2 == 0) = true then (if (y_7.2.2 == 0) = true then (if (((y_3.2.1).length : Int) == 1) = true then (if (((y_5.2.1).length : Int) == 1) = true then (some (((y_7.2.1).length : Int) == 0)) else (some false)) else (some false)) else (some false)) else (some false)) else (some false)))))
noncomputable def erasurelaw30_awake.t : List Item := [.code (bodyOf Try.f12)]
noncomputable def erasurelaw30_awake.s  : St := ⟨frOf Try.f12.ntmps 0 [], []⟩
theorem erasurelaw30_awake.run   {k : Nat}  {r : Bool} (h : erasurelaw30_awake k  = some r) : RunC Try.prog Try.f12 erasurelaw30_awake.t (erasurelaw30_awake.s ) (.p (.bool r)) [] := by
  unfold erasurelaw30_awake at h
  obtain ⟨y_1, e_2, h⟩ := bind_or h
  obtain ⟨y_3, e_4, h⟩ := bind_or h
  obtain ⟨y_5, e_6, h⟩ := bind_or h
  obtain ⟨y_7, e_8, h⟩ := bind_or h
  rcases ite_or h with ⟨g_9, h⟩ | ⟨g_9, h⟩
  · rcases ite_or h with ⟨g_10, h⟩ | ⟨g_10, h⟩
    · rcases ite_or h with ⟨g_11, h⟩ | ⟨g_11, h⟩
      · rcases ite_or h with ⟨g_12, h⟩ | ⟨g_12, h⟩
        · rcases ite_or h with ⟨g_13, h⟩ | ⟨g_13, h⟩
          · obtain rfl := Option.some.inj h
            exact RunC.out [.n 5, .r [(0, .call (.agg ((cValue y_1).map .p)) [])], .n 1, .r [(1, .obj (oL true 24 3 cValue dValue [y_1])), (3, .obj (oL true 36 2 cEntry dEntry [(TEntry.mk ([y_1]) 3)]))], .n 1, .r [(3, .callL [.agg ((cCache (TCache.mk (⟨#[]⟩ : ByteArray) (⟨#[]⟩ : ByteArray) 0 2)).map .p), .p (eL 5 cCached dCached ([] : List TCached)), .p (eL 2 cEntry dEntry ([(TEntry.mk ([y_1]) 3)])), .agg ((cValue y_1).map .p), .p (.int .i64 5)] (.tup [.sref 0 46 5 (y_3.1).length, .sref 1 36 2 (y_3.2.1).length, .p (.int .i64 y_3.2.2)]) [(oL true 46 5 cCached dCached y_3.1), (oL true 36 2 cEntry dEntry y_3.2.1)])], .n 1, .r [(3, .callL [.agg ((cCache (TCache.mk (⟨#[]⟩ : ByteArray) (⟨#[]⟩ : ByteArray) 0 2)).map .p), .p (eL 5 cCached dCached y_3.1), .p (eL 2 cEntry dEntry ([] : List TEntry)), .agg ((cValue y_1).map .p), .p (.int .i64 6)] (.tup [.sref 0 46 5 (y_5.1).length, .sref 1 36 2 (y_5.2.1).length, .p (.int .i64 y_5.2.2)]) [(oL true 46 5 cCached dCached y_5.1), (oL true 36 2 cEntry dEntry y_5.2.1)])], .n 1, .r [(3, .callL [.agg ((cCache (TCache.mk (⟨#[]⟩ : ByteArray) (⟨#[]⟩ : ByteArray) 0 2)).map .p), .p (eL 5 cCached dCached y_5.1), .p (eL 2 cEntry dEntry ([] : List TEntry)), .agg ((cValue y_1).map .p), .p (.int .i64 7)] (.tup [.sref 0 46 5 (y_7.1).length, .sref 1 36 2 (y_7.2.1).length, .p (.int .i64 y_7.2.2)]) [(oL true 46 5 cCached dCached y_7.1), (oL true 36 2 cEntry dEntry y_7.2.1)])], .n 1, .r [(2, .dec true), (6, .dec true), (10, .dec true), (15, .dec true), (20, .dec true)]] (by kernel_rfl) (Obs.of (by kernel_rfl) (And.intro (erasureref01_Int.spec e_2) (And.intro (le_one 24 3 cValue dValue y_1) (And.intro (le_one 36 2 cEntry dEntry (TEntry.mk ([y_1]) 3)) (And.intro (And.intro (fls_cons (fle_rfl (.agg ((cCache (TCache.mk (⟨#[]⟩ : ByteArray) (⟨#[]⟩ : ByteArray) 0 2)).map .p))) (fls_cons (fle_nil 5 cCached dCached) (fls_cons (fle_rfl (.p (eL 2 cEntry dEntry ([(TEntry.mk ([y_1]) 3)])))) (fls_cons (fle_rfl (.agg ((cValue y_1).map .p))) (fls_cons (fle_rfl (.p (.int .i64 5))) fls_nil))))) (cache_Lookup.spec e_4)) (And.intro (And.intro (fls_cons (fle_rfl (.agg ((cCache (TCache.mk (⟨#[]⟩ : ByteArray) (⟨#[]⟩ : ByteArray) 0 2)).map .p))) (fls_cons (fle_rfl (.p (eL 5 cCached dCached y_3.1))) (fls_cons (fle_nil 2 cEntry dEntry) (fls_cons (fle_rfl (.agg ((cValue y_1).map .p))) (fls_cons (fle_rfl (.p (.int .i64 6))) fls_nil))))) (cache_Lookup.spec e_6)) (And.intro (And.intro (fls_cons (fle_rfl (.agg ((cCache (TCache.mk (⟨#[]⟩ : ByteArray) (⟨#[]⟩ : ByteArray) 0 2)).map .p))) (fls_cons (fle_rfl (.p (eL 5 cCached dCached y_5.1))) (fls_cons (fle_nil 2 cEntry dEntry) (fls_cons (fle_rfl (.agg ((cValue y_1).map .p))) (fls_cons (fle_rfl (.p (.int .i64 7))) fls_nil))))) (cache_Lookup.spec e_8)) (And.intro g_9 (And.intro g_10 (And.intro g_11 (And.intro g_12 g_13)))))))))))
          · obtain rfl := Option.some.inj h
            exact RunC.out [.n 5, .r [(0, .call (.agg ((cValue y_1).map .p)) [])], .n 1, .r [(1, .obj (oL true 24 3 cValue dValue [y_1])), (3, .obj (oL true 36 2 cEntry dEntry [(TEntry.mk ([y_1]) 3)]))], .n 1, .r [(3, .callL [.agg ((cCache (TCache.mk (⟨#[]⟩ : ByteArray) (⟨#[]⟩ : ByteArray) 0 2)).map .p), .p (eL 5 cCached dCached ([] : List TCached)), .p (eL 2 cEntry dEntry ([(TEntry.mk ([y_1]) 3)])), .agg ((cValue y_1).map .p), .p (.int .i64 5)] (.tup [.sref 0 46 5 (y_3.1).length, .sref 1 36 2 (y_3.2.1).length, .p (.int .i64 y_3.2.2)]) [(oL true 46 5 cCached dCached y_3.1), (oL true 36 2 cEntry dEntry y_3.2.1)])], .n 1, .r [(3, .callL [.agg ((cCache (TCache.mk (⟨#[]⟩ : ByteArray) (⟨#[]⟩ : ByteArray) 0 2)).map .p), .p (eL 5 cCached dCached y_3.1), .p (eL 2 cEntry dEntry ([] : List TEntry)), .agg ((cValue y_1).map .p), .p (.int .i64 6)] (.tup [.sref 0 46 5 (y_5.1).length, .sref 1 36 2 (y_5.2.1).length, .p (.int .i64 y_5.2.2)]) [(oL true 46 5 cCached dCached y_5.1), (oL true 36 2 cEntry dEntry y_5.2.1)])], .n 1, .r [(3, .callL [.agg ((cCache (TCache.mk (⟨#[]⟩ : ByteArray) (⟨#[]⟩ : ByteArray) 0 2)).map .p), .p (eL 5 cCached dCached y_5.1), .p (eL 2 cEntry dEntry ([] : List TEntry)), .agg ((cValue y_1).map .p), .p (.int .i64 7)] (.tup [.sref 0 46 5 (y_7.1).length, .sref 1 36 2 (y_7.2.1).length, .p (.int .i64 y_7.2.2)]) [(oL true 46 5 cCached dCached y_7.1), (oL true 36 2 cEntry dEntry y_7.2.1)])], .n 1, .r [(2, .dec true), (6, .dec true), (10, .dec true), (15, .dec true), (20, .dec false)]] (by kernel_rfl) (Obs.of (by kernel_rfl) (And.intro (erasureref01_Int.spec e_2) (And.intro (le_one 24 3 cValue dValue y_1) (And.intro (le_one 36 2 cEntry dEntry (TEntry.mk ([y_1]) 3)) (And.intro (And.intro (fls_cons (fle_rfl (.agg ((cCache (TCache.mk (⟨#[]⟩ : ByteArray) (⟨#[]⟩ : ByteArray) 0 2)).map .p))) (fls_cons (fle_nil 5 cCached dCached) (fls_cons (fle_rfl (.p (eL 2 cEntry dEntry ([(TEntry.mk ([y_1]) 3)])))) (fls_cons (fle_rfl (.agg ((cValue y_1).map .p))) (fls_cons (fle_rfl (.p (.int .i64 5))) fls_nil))))) (cache_Lookup.spec e_4)) (And.intro (And.intro (fls_cons (fle_rfl (.agg ((cCache (TCache.mk (⟨#[]⟩ : ByteArray) (⟨#[]⟩ : ByteArray) 0 2)).map .p))) (fls_cons (fle_rfl (.p (eL 5 cCached dCached y_3.1))) (fls_cons (fle_nil 2 cEntry dEntry) (fls_cons (fle_rfl (.agg ((cValue y_1).map .p))) (fls_cons (fle_rfl (.p (.int .i64 6))) fls_nil))))) (cache_Lookup.spec e_6)) (And.intro (And.intro (fls_cons (fle_rfl (.agg ((cCache (TCache.mk (⟨#[]⟩ : ByteArray) (⟨#[]⟩ : ByteArray) 0 2)).map .p))) (fls_cons (fle_rfl (.p (eL 5 cCached dCached y_5.1))) (fls_cons (fle_nil 2 cEntry dEntry) (fls_cons (fle_rfl (.agg ((cValue y_1).map .p))) (fls_cons (fle_rfl (.p (.int .i64 7))) fls_nil))))) (cache_Lookup.spec e_8)) (And.intro g_9 (And.intro g_10 (And.intro g_11 (And.intro g_12 (nt g_13))))))))))))
        · obtain rfl := Option.some.inj h
          exact RunC.out [.n 5, .r [(0, .call (.agg ((cValue y_1).map .p)) [])], .n 1, .r [(1, .obj (oL true 24 3 cValue dValue [y_1])), (3, .obj (oL true 36 2 cEntry dEntry [(TEntry.mk ([y_1]) 3)]))], .n 1, .r [(3, .callL [.agg ((cCache (TCache.mk (⟨#[]⟩ : ByteArray) (⟨#[]⟩ : ByteArray) 0 2)).map .p), .p (eL 5 cCached dCached ([] : List TCached)), .p (eL 2 cEntry dEntry ([(TEntry.mk ([y_1]) 3)])), .agg ((cValue y_1).map .p), .p (.int .i64 5)] (.tup [.sref 0 46 5 (y_3.1).length, .sref 1 36 2 (y_3.2.1).length, .p (.int .i64 y_3.2.2)]) [(oL true 46 5 cCached dCached y_3.1), (oL true 36 2 cEntry dEntry y_3.2.1)])], .n 1, .r [(3, .callL [.agg ((cCache (TCache.mk (⟨#[]⟩ : ByteArray) (⟨#[]⟩ : ByteArray) 0 2)).map .p), .p (eL 5 cCached dCached y_3.1), .p (eL 2 cEntry dEntry ([] : List TEntry)), .agg ((cValue y_1).map .p), .p (.int .i64 6)] (.tup [.sref 0 46 5 (y_5.1).length, .sref 1 36 2 (y_5.2.1).length, .p (.int .i64 y_5.2.2)]) [(oL true 46 5 cCached dCached y_5.1), (oL true 36 2 cEntry dEntry y_5.2.1)])], .n 1, .r [(3, .callL [.agg ((cCache (TCache.mk (⟨#[]⟩ : ByteArray) (⟨#[]⟩ : ByteArray) 0 2)).map .p), .p (eL 5 cCached dCached y_5.1), .p (eL 2 cEntry dEntry ([] : List TEntry)), .agg ((cValue y_1).map .p), .p (.int .i64 7)] (.tup [.sref 0 46 5 (y_7.1).length, .sref 1 36 2 (y_7.2.1).length, .p (.int .i64 y_7.2.2)]) [(oL true 46 5 cCached dCached y_7.1), (oL true 36 2 cEntry dEntry y_7.2.1)])], .n 1, .r [(2, .dec true), (6, .dec true), (10, .dec true), (15, .dec false)]] (by kernel_rfl) (Obs.of (by kernel_rfl) (And.intro (erasureref01_Int.spec e_2) (And.intro (le_one 24 3 cValue dValue y_1) (And.intro (le_one 36 2 cEntry dEntry (TEntry.mk ([y_1]) 3)) (And.intro (And.intro (fls_cons (fle_rfl (.agg ((cCache (TCache.mk (⟨#[]⟩ : ByteArray) (⟨#[]⟩ : ByteArray) 0 2)).map .p))) (fls_cons (fle_nil 5 cCached dCached) (fls_cons (fle_rfl (.p (eL 2 cEntry dEntry ([(TEntry.mk ([y_1]) 3)])))) (fls_cons (fle_rfl (.agg ((cValue y_1).map .p))) (fls_cons (fle_rfl (.p (.int .i64 5))) fls_nil))))) (cache_Lookup.spec e_4)) (And.intro (And.intro (fls_cons (fle_rfl (.agg ((cCache (TCache.mk (⟨#[]⟩ : ByteArray) (⟨#[]⟩ : ByteArray) 0 2)).map .p))) (fls_cons (fle_rfl (.p (eL 5 cCached dCached y_3.1))) (fls_cons (fle_nil 2 cEntry dEntry) (fls_cons (fle_rfl (.agg ((cValue y_1).map .p))) (fls_cons (fle_rfl (.p (.int .i64 6))) fls_nil))))) (cache_Lookup.spec e_6)) (And.intro (And.intro (fls_cons (fle_rfl (.agg ((cCache (TCache.mk (⟨#[]⟩ : ByteArray) (⟨#[]⟩ : ByteArray) 0 2)).map .p))) (fls_cons (fle_rfl (.p (eL 5 cCached dCached y_5.1))) (fls_cons (fle_nil 2 cEntry dEntry) (fls_cons (fle_rfl (.agg ((cValue y_1).map .p))) (fls_cons (fle_rfl (.p (.int .i64 7))) fls_nil))))) (cache_Lookup.spec e_8)) (And.intro g_9 (And.intro g_10 (And.intro g_11 (nt g_12)))))))))))
      · obtain rfl := Option.some.inj h
        exact RunC.out [.n 5, .r [(0, .call (.agg ((cValue y_1).map .p)) [])], .n 1, .r [(1, .obj (oL true 24 3 cValue dValue [y_1])), (3, .obj (oL true 36 2 cEntry dEntry [(TEntry.mk ([y_1]) 3)]))], .n 1, .r [(3, .callL [.agg ((cCache (TCache.mk (⟨#[]⟩ : ByteArray) (⟨#[]⟩ : ByteArray) 0 2)).map .p), .p (eL 5 cCached dCached ([] : List TCached)), .p (eL 2 cEntry dEntry ([(TEntry.mk ([y_1]) 3)])), .agg ((cValue y_1).map .p), .p (.int .i64 5)] (.tup [.sref 0 46 5 (y_3.1).length, .sref 1 36 2 (y_3.2.1).length, .p (.int .i64 y_3.2.2)]) [(oL true 46 5 cCached dCached y_3.1), (oL true 36 2 cEntry dEntry y_3.2.1)])], .n 1, .r [(3, .callL [.agg ((cCache (TCache.mk (⟨#[]⟩ : ByteArray) (⟨#[]⟩ : ByteArray) 0 2)).map .p), .p (eL 5 cCached dCached y_3.1), .p (eL 2 cEntry dEntry ([] : List TEntry)), .agg ((cValue y_1).map .p), .p (.int .i64 6)] (.tup [.sref 0 46 5 (y_5.1).length, .sref 1 36 2 (y_5.2.1).length, .p (.int .i64 y_5.2.2)]) [(oL true 46 5 cCached dCached y_5.1), (oL true 36 2 cEntry dEntry y_5.2.1)])], .n 1, .r [(3, .callL [.agg ((cCache (TCache.mk (⟨#[]⟩ : ByteArray) (⟨#[]⟩ : ByteArray) 0 2)).map .p), .p (eL 5 cCached dCached y_5.1), .p (eL 2 cEntry dEntry ([] : List TEntry)), .agg ((cValue y_1).map .p), .p (.int .i64 7)] (.tup [.sref 0 46 5 (y_7.1).length, .sref 1 36 2 (y_7.2.1).length, .p (.int .i64 y_7.2.2)]) [(oL true 46 5 cCached dCached y_7.1), (oL true 36 2 cEntry dEntry y_7.2.1)])], .n 1, .r [(2, .dec true), (6, .dec true), (10, .dec false)]] (by kernel_rfl) (Obs.of (by kernel_rfl) (And.intro (erasureref01_Int.spec e_2) (And.intro (le_one 24 3 cValue dValue y_1) (And.intro (le_one 36 2 cEntry dEntry (TEntry.mk ([y_1]) 3)) (And.intro (And.intro (fls_cons (fle_rfl (.agg ((cCache (TCache.mk (⟨#[]⟩ : ByteArray) (⟨#[]⟩ : ByteArray) 0 2)).map .p))) (fls_cons (fle_nil 5 cCached dCached) (fls_cons (fle_rfl (.p (eL 2 cEntry dEntry ([(TEntry.mk ([y_1]) 3)])))) (fls_cons (fle_rfl (.agg ((cValue y_1).map .p))) (fls_cons (fle_rfl (.p (.int .i64 5))) fls_nil))))) (cache_Lookup.spec e_4)) (And.intro (And.intro (fls_cons (fle_rfl (.agg ((cCache (TCache.mk (⟨#[]⟩ : ByteArray) (⟨#[]⟩ : ByteArray) 0 2)).map .p))) (fls_cons (fle_rfl (.p (eL 5 cCached dCached y_3.1))) (fls_cons (fle_nil 2 cEntry dEntry) (fls_cons (fle_rfl (.agg ((cValue y_1).map .p))) (fls_cons (fle_rfl (.p (.int .i64 6))) fls_nil))))) (cache_Lookup.spec e_6)) (And.intro (And.intro (fls_cons (fle_rfl (.agg ((cCache (TCache.mk (⟨#[]⟩ : ByteArray) (⟨#[]⟩ : ByteArray) 0 2)).map .p))) (fls_cons (fle_rfl (.p (eL 5 cCached dCached y_5.1))) (fls_cons (fle_nil 2 cEntry dEntry) (fls_cons (fle_rfl (.agg ((cValue y_1).map .p))) (fls_cons (fle_rfl (.p (.int .i64 7))) fls_nil))))) (cache_Lookup.spec e_8)) (And.intro g_9 (And.intro g_10 (nt g_11))))))))))
    · obtain rfl := Option.some.inj h
      exact RunC.out [.n 5, .r [(0, .call (.agg ((cValue y_1).map .p)) [])], .n 1, .r [(1, .obj (oL true 24 3 cValue dValue [y_1])), (3, .obj (oL true 36 2 cEntry dEntry [(TEntry.mk ([y_1]) 3)]))], .n 1, .r [(3, .callL [.agg ((cCache (TCache.mk (⟨#[]⟩ : ByteArray) (⟨#[]⟩ : ByteArray) 0 2)).map .p), .p (eL 5 cCached dCached ([] : List TCached)), .p (eL 2 cEntry dEntry ([(TEntry.mk ([y_1]) 3)])), .agg ((cValue y_1).map .p), .p (.int .i64 5)] (.tup [.sref 0 46 5 (y_3.1).length, .sref 1 36 2 (y_3.2.1).length, .p (.int .i64 y_3.2.2)]) [(oL true 46 5 cCached dCached y_3.1), (oL true 36 2 cEntry dEntry y_3.2.1)])], .n 1, .r [(3, .callL [.agg ((cCache (TCache.mk (⟨#[]⟩ : ByteArray) (⟨#[]⟩ : ByteArray) 0 2)).map .p), .p (eL 5 cCached dCached y_3.1), .p (eL 2 cEntry dEntry ([] : List TEntry)), .agg ((cValue y_1).map .p), .p (.int .i64 6)] (.tup [.sref 0 46 5 (y_5.1).length, .sref 1 36 2 (y_5.2.1).length, .p (.int .i64 y_5.2.2)]) [(oL true 46 5 cCached dCached y_5.1), (oL true 36 2 cEntry dEntry y_5.2.1)])], .n 1, .r [(3, .callL [.agg ((cCache (TCache.mk (⟨#[]⟩ : ByteArray) (⟨#[]⟩ : ByteArray) 0 2)).map .p), .p (eL 5 cCached dCached y_5.1), .p (eL 2 cEntry dEntry ([] : List TEntry)), .agg ((cValue y_1).map .p), .p (.int .i64 7)] (.tup [.sref 0 46 5 (y_7.1).length, .sref 1 36 2 (y_7.2.1).length, .p (.int .i64 y_7.2.2)]) [(oL true 46 5 cCached dCached y_7.1), (oL true 36 2 cEntry dEntry y_7.2.1)])], .n 1, .r [(2, .dec true), (6, .dec false)]] (by kernel_rfl) (Obs.of (by kernel_rfl) (And.intro (erasureref01_Int.spec e_2) (And.intro (le_one 24 3 cValue dValue y_1) (And.intro (le_one 36 2 cEntry dEntry (TEntry.mk ([y_1]) 3)) (And.intro (And.intro (fls_cons (fle_rfl (.agg ((cCache (TCache.mk (⟨#[]⟩ : ByteArray) (⟨#[]⟩ : ByteArray) 0 2)).map .p))) (fls_cons (fle_nil 5 cCached dCached) (fls_cons (fle_rfl (.p (eL 2 cEntry dEntry ([(TEntry.mk ([y_1]) 3)])))) (fls_cons (fle_rfl (.agg ((cValue y_1).map .p))) (fls_cons (fle_rfl (.p (.int .i64 5))) fls_nil))))) (cache_Lookup.spec e_4)) (And.intro (And.intro (fls_cons (fle_rfl (.agg ((cCache (TCache.mk (⟨#[]⟩ : ByteArray) (⟨#[]⟩ : ByteArray) 0 2)).map .p))) (fls_cons (fle_rfl (.p (eL 5 cCached dCached y_3.1))) (fls_cons (fle_nil 2 cEntry dEntry) (fls_cons (fle_rfl (.agg ((cValue y_1).map .p))) (fls_cons (fle_rfl (.p (.int .i64 6))) fls_nil))))) (cache_Lookup.spec e_6)) (And.intro (And.intro (fls_cons (fle_rfl (.agg ((cCache (TCache.mk (⟨#[]⟩ : ByteArray) (⟨#[]⟩ : ByteArray) 0 2)).map .p))) (fls_cons (fle_rfl (.p (eL 5 cCached dCached y_5.1))) (fls_cons (fle_nil 2 cEntry dEntry) (fls_cons (fle_rfl (.agg ((cValue y_1).map .p))) (fls_cons (fle_rfl (.p (.int .i64 7))) fls_nil))))) (cache_Lookup.spec e_8)) (And.intro g_9 (nt g_10)))))))))
  · obtain rfl := Option.some.inj h
    exact RunC.out [.n 5, .r [(0, .call (.agg ((cValue y_1).map .p)) [])], .n 1, .r [(1, .obj (oL true 24 3 cValue dValue [y_1])), (3, .obj (oL true 36 2 cEntry dEntry [(TEntry.mk ([y_1]) 3)]))], .n 1, .r [(3, .callL [.agg ((cCache (TCache.mk (⟨#[]⟩ : ByteArray) (⟨#[]⟩ : ByteArray) 0 2)).map .p), .p (eL 5 cCached dCached ([] : List TCached)), .p (eL 2 cEntry dEntry ([(TEntry.mk ([y_1]) 3)])), .agg ((cValue y_1).map .p), .p (.int .i64 5)] (.tup [.sref 0 46 5 (y_3.1).length, .sref 1 36 2 (y_3.2.1).length, .p (.int .i64 y_3.2.2)]) [(oL true 46 5 cCached dCached y_3.1), (oL true 36 2 cEntry dEntry y_3.2.1)])], .n 1, .r [(3, .callL [.agg ((cCache (TCache.mk (⟨#[]⟩ : ByteArray) (⟨#[]⟩ : ByteArray) 0 2)).map .p), .p (eL 5 cCached dCached y_3.1), .p (eL 2 cEntry dEntry ([] : List TEntry)), .agg ((cValue y_1).map .p), .p (.int .i64 6)] (.tup [.sref 0 46 5 (y_5.1).length, .sref 1 36 2 (y_5.2.1).length, .p (.int .i64 y_5.2.2)]) [(oL true 46 5 cCached dCached y_5.1), (oL true 36 2 cEntry dEntry y_5.2.1)])], .n 1, .r [(3, .callL [.agg ((cCache (TCache.mk (⟨#[]⟩ : ByteArray) (⟨#[]⟩ : ByteArray) 0 2)).map .p), .p (eL 5 cCached dCached y_5.1), .p (eL 2 cEntry dEntry ([] : List TEntry)), .agg ((cValue y_1).map .p), .p (.int .i64 7)] (.tup [.sref 0 46 5 (y_7.1).length, .sref 1 36 2 (y_7.2.1).length, .p (.int .i64 y_7.2.2)]) [(oL true 46 5 cCached dCached y_7.1), (oL true 36 2 cEntry dEntry y_7.2.1)])], .n 1, .r [(2, .dec false)]] (by kernel_rfl) (Obs.of (by kernel_rfl) (And.intro (erasureref01_Int.spec e_2) (And.intro (le_one 24 3 cValue dValue y_1) (And.intro (le_one 36 2 cEntry dEntry (TEntry.mk ([y_1]) 3)) (And.intro (And.intro (fls_cons (fle_rfl (.agg ((cCache (TCache.mk (⟨#[]⟩ : ByteArray) (⟨#[]⟩ : ByteArray) 0 2)).map .p))) (fls_cons (fle_nil 5 cCached dCached) (fls_cons (fle_rfl (.p (eL 2 cEntry dEntry ([(TEntry.mk ([y_1]) 3)])))) (fls_cons (fle_rfl (.agg ((cValue y_1).map .p))) (fls_cons (fle_rfl (.p (.int .i64 5))) fls_nil))))) (cache_Lookup.spec e_4)) (And.intro (And.intro (fls_cons (fle_rfl (.agg ((cCache (TCache.mk (⟨#[]⟩ : ByteArray) (⟨#[]⟩ : ByteArray) 0 2)).map .p))) (fls_cons (fle_rfl (.p (eL 5 cCached dCached y_3.1))) (fls_cons (fle_nil 2 cEntry dEntry) (fls_cons (fle_rfl (.agg ((cValue y_1).map .p))) (fls_cons (fle_rfl (.p (.int .i64 6))) fls_nil))))) (cache_Lookup.spec e_6)) (And.intro (And.intro (fls_cons (fle_rfl (.agg ((cCache (TCache.mk (⟨#[]⟩ : ByteArray) (⟨#[]⟩ : ByteArray) 0 2)).map .p))) (fls_cons (fle_rfl (.p (eL 5 cCached dCached y_5.1))) (fls_cons (fle_nil 2 cEntry dEntry) (fls_cons (fle_rfl (.agg ((cValue y_1).map .p))) (fls_cons (fle_rfl (.p (.int .i64 7))) fls_nil))))) (cache_Lookup.spec e_8)) (nt g_9))))))))
theorem erasurelaw30_awake.mono   : ∀ (k k' : Nat)  (r : Bool), k ≤ k' → erasurelaw30_awake k  = some r → erasurelaw30_awake k'  = some r := by
  intro k k'  r hk h
  unfold erasurelaw30_awake at h ⊢
  obtain ⟨y_1, e_2, h⟩ := bind_or h
  refine bnd (erasureref01_Int.mono _ _ _ _ hk e_2) ?_
  obtain ⟨y_3, e_4, h⟩ := bind_or h
  refine bnd (cache_Lookup.mono _ _ _ _ _ _ _ _ hk e_4) ?_
  obtain ⟨y_5, e_6, h⟩ := bind_or h
  refine bnd (cache_Lookup.mono _ _ _ _ _ _ _ _ hk e_6) ?_
  obtain ⟨y_7, e_8, h⟩ := bind_or h
  refine bnd (cache_Lookup.mono _ _ _ _ _ _ _ _ hk e_8) ?_
  rcases ite_or h with ⟨g_9, h⟩ | ⟨g_9, h⟩
  · refine itp g_9 ?_
    rcases ite_or h with ⟨g_10, h⟩ | ⟨g_10, h⟩
    · refine itp g_10 ?_
      rcases ite_or h with ⟨g_11, h⟩ | ⟨g_11, h⟩
      · refine itp g_11 ?_
        rcases ite_or h with ⟨g_12, h⟩ | ⟨g_12, h⟩
        · refine itp g_12 ?_
          rcases ite_or h with ⟨g_13, h⟩ | ⟨g_13, h⟩
          · refine itp g_13 ?_
            exact h
          · refine itn g_13 ?_
            exact h
        · refine itn g_12 ?_
          exact h
      · refine itn g_11 ?_
        exact h
    · refine itn g_10 ?_
      exact h
  · refine itn g_9 ?_
    exact h
theorem erasurelaw30_awake.spec {k : Nat}  {r : Bool} (h : erasurelaw30_awake k  = some r) : Spec Try.prog 12 [] (.p (.bool r)) [] :=
  spec_of mix Try.func12 (body := bodyOf Try.f12) (by kernel_rfl) (by kernel_rfl) (erasurelaw30_awake.run h)
end Go.Proofs.YtjhnpaenhdbhpabV
set_option linter.unusedVariables false
set_option linter.unusedSimpArgs false
set_option maxRecDepth 100000
namespace Go.Proofs.YtjhnpaenhdbhpabV
open Go Go.RowKit
noncomputable def erasureref22_SameRow.p1  : Nat → (List TValue) → (List TValue) → Int → Option Bool
  | 0, _, _, _ => none
  | k + 1, a0, b1, i5 => if (decide (i5 < ((a0).length : Int))) = true then (if 0 ≤ i5 ∧ i5 < ((a0).length : Int) then (if 0 ≤ i5 ∧ i5 < ((b1).length : Int) then (if (!(((a0.getD i5.toNat dValue).f0 == (b1.getD i5.toNat dValue).f0) && (((a0.getD i5.toNat dValue).f1 == (b1.getD i5.toNat dValue).f1) && ((((a0.getD i5.toNat dValue).f2).data.toList == ((b1.getD i5.toNat dValue).f2).data.toList) && true)))) = true then (some false) else (erasureref22_SameRow.p1 k a0 b1 (IntKind.i64.wrap (i5 + 1)))) else none) else none) else (some true)
noncomputable def erasureref22_SameRow  (k : Nat) (a0 : (List TValue)) (b1 : (List TValue)) : Option Bool := if (((a0).length : Int) != ((b1).length : Int)) = true then (some false) else (erasureref22_SameRow.p1 k a0 b1 0)
noncomputable def erasureref22_SameRow.t : List Item := [.code (bodyOf Try.f54)]
noncomputable def erasureref22_SameRow.s (a0 : (List TValue)) (b1 : (List TValue)) : St := ⟨frOf Try.f54.ntmps 0 [(0, .p (eL 3 cValue dValue a0)), (1, .p (eL 3 cValue dValue b1))], []⟩
noncomputable def erasureref22_SameRow.p1.t : List Item := nav 12 [false] erasureref22_SameRow.t
noncomputable def erasureref22_SameRow.p1.s (a0 : (List TValue)) (b1 : (List TValue)) (i5 : Int) : St := ⟨frOf Try.f54.ntmps 0 [(0, .p (eL 3 cValue dValue a0)), (1, .p (eL 3 cValue dValue b1)), (5, .p (.int .i64 i5))], []⟩
theorem erasureref22_SameRow.p1.run   : ∀ (k : Nat) (a0 : (List TValue)) (b1 : (List TValue)) (i5 : Int) (r : Bool), erasureref22_SameRow.p1 k a0 b1 i5 = some r → RunC Try.prog Try.f54 erasureref22_SameRow.p1.t (erasureref22_SameRow.p1.s a0 b1 i5) (.p (.bool r)) [] := by
  intro k
  induction k with
  | zero => intro a0 b1 i5 r h; simp [erasureref22_SameRow.p1] at h
  | succ k ih =>
    intro a0 b1 i5 r h
    rw [erasureref22_SameRow.p1] at h
    rcases ite_or h with ⟨g_2, h⟩ | ⟨g_2, h⟩
    · obtain ⟨g_3, h⟩ := ite_some h
      obtain ⟨g_4, h⟩ := ite_some h
      rcases ite_or h with ⟨g_5, h⟩ | ⟨g_5, h⟩
      · obtain rfl := Option.some.inj h
        exact RunC.out [.n 2, .r [(3, .dec true)], .n 5, .r [(8, .dec true)], .n 3] (by kernel_rfl) (Obs.of (by kernel_rfl) (And.intro g_2 (And.intro g_3 (And.intro g_4 g_5))))
      · exact RunC.go [.n 2, .r [(3, .dec true)], .n 5, .r [(8, .dec false)], .n 5, .k [0, 1, 5]] (by kernel_rfl) (Obs.of (by kernel_rfl) (And.intro g_2 (And.intro g_3 (And.intro g_4 (nt g_5))))) (ih _ _ _ r h)
    · obtain rfl := Option.some.inj h
      exact RunC.out [.n 2, .r [(3, .dec false)], .n 4] (by kernel_rfl) (Obs.of (by kernel_rfl) (nt g_2))
theorem erasureref22_SameRow.run   {k : Nat} {a0 : (List TValue)} {b1 : (List TValue)} {r : Bool} (h : erasureref22_SameRow k a0 b1 = some r) : RunC Try.prog Try.f54 erasureref22_SameRow.t (erasureref22_SameRow.s a0 b1) (.p (.bool r)) [] := by
  unfold erasureref22_SameRow at h
  rcases ite_or h with ⟨g_1, h⟩ | ⟨g_1, h⟩
  · obtain rfl := Option.some.inj h
    exact RunC.out [.n 4, .r [(4, .dec true)], .n 3] (by kernel_rfl) (Obs.of (by kernel_rfl) g_1)
  · exact RunC.go [.n 4, .r [(4, .dec false)], .n 7, .k [0, 1, 5]] (by kernel_rfl) (Obs.of (by kernel_rfl) (nt g_1)) (erasureref22_SameRow.p1.run k _ _ _ r h)
theorem erasureref22_SameRow.p1.mono   : ∀ (k k' : Nat) (a0 : (List TValue)) (b1 : (List TValue)) (i5 : Int) (r : Bool), k ≤ k' → erasureref22_SameRow.p1 k a0 b1 i5 = some r → erasureref22_SameRow.p1 k' a0 b1 i5 = some r := by
  intro k
  induction k with
  | zero => intro k' a0 b1 i5 r hk h; simp [erasureref22_SameRow.p1] at h
  | succ k ih =>
    intro k' a0 b1 i5 r hk h
    obtain ⟨k', rfl⟩ : ∃ m, k' = m + 1 := ⟨k' - 1, by omega⟩
    replace hk := Nat.le_of_succ_le_succ hk
    rw [erasureref22_SameRow.p1] at h ⊢
    rcases ite_or h with ⟨g_2, h⟩ | ⟨g_2, h⟩
    · refine itp g_2 ?_
      obtain ⟨g_3, h⟩ := ite_some h
      refine itp g_3 ?_
      obtain ⟨g_4, h⟩ := ite_some h
      refine itp g_4 ?_
      rcases ite_or h with ⟨g_5, h⟩ | ⟨g_5, h⟩
      · refine itp g_5 ?_
        exact h
      · refine itn g_5 ?_
        exact ih _ _ _ _ r hk h
    · refine itn g_2 ?_
      exact h
theorem erasureref22_SameRow.mono   : ∀ (k k' : Nat) (a0 : (List TValue)) (b1 : (List TValue)) (r : Bool), k ≤ k' → erasureref22_SameRow k a0 b1 = some r → erasureref22_SameRow k' a0 b1 = some r := by
  intro k k' a0 b1 r hk h
  unfold erasureref22_SameRow at h ⊢
  rcases ite_or h with ⟨g_1, h⟩ | ⟨g_1, h⟩
  · refine itp g_1 ?_
    exact h
  · refine itn g_1 ?_
    exact erasureref22_SameRow.p1.mono _ _ _ _ _ r hk h
theorem erasureref22_SameRow.spec {k : Nat} {a0 : (List TValue)} {b1 : (List TValue)} {r : Bool} (h : erasureref22_SameRow k a0 b1 = some r) : Spec Try.prog 54 [.p (eL 3 cValue dValue a0), .p (eL 3 cValue dValue b1)] (.p (.bool r)) [] :=
  spec_of mix Try.func54 (body := bodyOf Try.f54) (by kernel_rfl) (by kernel_rfl) (erasureref22_SameRow.run h)
end Go.Proofs.YtjhnpaenhdbhpabV
set_option linter.unusedVariables false
set_option linter.unusedSimpArgs false
set_option maxRecDepth 100000
namespace Go.Proofs.YtjhnpaenhdbhpabV
open Go Go.RowKit
noncomputable def erasureref22_SameBag.p1  : Nat → (List TEntry) → (List TEntry) → Int → Option Bool
  | 0, _, _, _ => none
  | k + 1, a0, b1, i5 => if (decide (i5 < ((a0).length : Int))) = true then (if 0 ≤ i5 ∧ i5 < ((a0).length : Int) then (if 0 ≤ i5 ∧ i5 < ((b1).length : Int) then ((erasureref22_SameRow k ((a0.getD i5.toNat dEntry).f0) ((b1.getD i5.toNat dEntry).f0)).bind fun y_5 => (if (!y_5) = true then (some false) else (if ((a0.getD i5.toNat dEntry).f1 != (b1.getD i5.toNat dEntry).f1) = true then (some false) else (erasureref22_SameBag.p1 k a0 b1 (IntKind.i64.wrap (i5 + 1)))))) else none) else none) else (some true)
noncomputable def erasureref22_SameBag  (k : Nat) (a0 : (List TEntry)) (b1 : (List TEntry)) : Option Bool := if (((a0).length : Int) != ((b1).length : Int)) = true then (some false) else (erasureref22_SameBag.p1 k a0 b1 0)
noncomputable def erasureref22_SameBag.t : List Item := [.code (bodyOf Try.f36)]
noncomputable def erasureref22_SameBag.s (a0 : (List TEntry)) (b1 : (List TEntry)) : St := ⟨frOf Try.f36.ntmps 0 [(0, .p (eL 2 cEntry dEntry a0)), (1, .p (eL 2 cEntry dEntry b1))], []⟩
noncomputable def erasureref22_SameBag.p1.t : List Item := nav 12 [false] erasureref22_SameBag.t
noncomputable def erasureref22_SameBag.p1.s (a0 : (List TEntry)) (b1 : (List TEntry)) (i5 : Int) : St := ⟨frOf Try.f36.ntmps 0 [(0, .p (eL 2 cEntry dEntry a0)), (1, .p (eL 2 cEntry dEntry b1)), (5, .p (.int .i64 i5))], []⟩
theorem erasureref22_SameBag.p1.run   : ∀ (k : Nat) (a0 : (List TEntry)) (b1 : (List TEntry)) (i5 : Int) (r : Bool), erasureref22_SameBag.p1 k a0 b1 i5 = some r → RunC Try.prog Try.f36 erasureref22_SameBag.p1.t (erasureref22_SameBag.p1.s a0 b1 i5) (.p (.bool r)) [] := by
  intro k
  induction k with
  | zero => intro a0 b1 i5 r h; simp [erasureref22_SameBag.p1] at h
  | succ k ih =>
    intro a0 b1 i5 r h
    rw [erasureref22_SameBag.p1] at h
    rcases ite_or h with ⟨g_2, h⟩ | ⟨g_2, h⟩
    · obtain ⟨g_3, h⟩ := ite_some h
      obtain ⟨g_4, h⟩ := ite_some h
      obtain ⟨y_5, e_6, h⟩ := bind_or h
      rcases ite_or h with ⟨g_7, h⟩ | ⟨g_7, h⟩
      · obtain rfl := Option.some.inj h
        exact RunC.out [.n 2, .r [(3, .dec true)], .n 5, .r [(10, .call (.p (.bool y_5)) []), (12, .dec true)], .n 3] (by kernel_rfl) (Obs.of (by kernel_rfl) (And.intro g_2 (And.intro g_3 (And.intro g_4 (And.intro (erasureref22_SameRow.spec e_6) g_7)))))
      · rcases ite_or h with ⟨g_8, h⟩ | ⟨g_8, h⟩
        · obtain rfl := Option.some.inj h
          exact RunC.out [.n 2, .r [(3, .dec true)], .n 5, .r [(10, .call (.p (.bool y_5)) []), (12, .dec false), (24, .dec true)], .n 3] (by kernel_rfl) (Obs.of (by kernel_rfl) (And.intro g_2 (And.intro g_3 (And.intro g_4 (And.intro (erasureref22_SameRow.spec e_6) (And.intro (nt g_7) (And.intro g_3 (And.intro g_4 g_8))))))))
        · exact RunC.go [.n 2, .r [(3, .dec true)], .n 5, .r [(10, .call (.p (.bool y_5)) []), (12, .dec false), (24, .dec false)], .n 5, .k [0, 1, 5]] (by kernel_rfl) (Obs.of (by kernel_rfl) (And.intro g_2 (And.intro g_3 (And.intro g_4 (And.intro (erasureref22_SameRow.spec e_6) (And.intro (nt g_7) (And.intro g_3 (And.intro g_4 (nt g_8))))))))) (ih _ _ _ r h)
    · obtain rfl := Option.some.inj h
      exact RunC.out [.n 2, .r [(3, .dec false)], .n 4] (by kernel_rfl) (Obs.of (by kernel_rfl) (nt g_2))
theorem erasureref22_SameBag.run   {k : Nat} {a0 : (List TEntry)} {b1 : (List TEntry)} {r : Bool} (h : erasureref22_SameBag k a0 b1 = some r) : RunC Try.prog Try.f36 erasureref22_SameBag.t (erasureref22_SameBag.s a0 b1) (.p (.bool r)) [] := by
  unfold erasureref22_SameBag at h
  rcases ite_or h with ⟨g_1, h⟩ | ⟨g_1, h⟩
  · obtain rfl := Option.some.inj h
    exact RunC.out [.n 4, .r [(4, .dec true)], .n 3] (by kernel_rfl) (Obs.of (by kernel_rfl) g_1)
  · exact RunC.go [.n 4, .r [(4, .dec false)], .n 7, .k [0, 1, 5]] (by kernel_rfl) (Obs.of (by kernel_rfl) (nt g_1)) (erasureref22_SameBag.p1.run k _ _ _ r h)
theorem erasureref22_SameBag.p1.mono   : ∀ (k k' : Nat) (a0 : (List TEntry)) (b1 : (List TEntry)) (i5 : Int) (r : Bool), k ≤ k' → erasureref22_SameBag.p1 k a0 b1 i5 = some r → erasureref22_SameBag.p1 k' a0 b1 i5 = some r := by
  intro k
  induction k with
  | zero => intro k' a0 b1 i5 r hk h; simp [erasureref22_SameBag.p1] at h
  | succ k ih =>
    intro k' a0 b1 i5 r hk h
    obtain ⟨k', rfl⟩ : ∃ m, k' = m + 1 := ⟨k' - 1, by omega⟩
    replace hk := Nat.le_of_succ_le_succ hk
    rw [erasureref22_SameBag.p1] at h ⊢
    rcases ite_or h with ⟨g_2, h⟩ | ⟨g_2, h⟩
    · refine itp g_2 ?_
      obtain ⟨g_3, h⟩ := ite_some h
      refine itp g_3 ?_
      obtain ⟨g_4, h⟩ := ite_some h
      refine itp g_4 ?_
      obtain ⟨y_5, e_6, h⟩ := bind_or h
      refine bnd (erasureref22_SameRow.mono _ _ _ _ _ hk e_6) ?_
      rcases ite_or h with ⟨g_7, h⟩ | ⟨g_7, h⟩
      · refine itp g_7 ?_
        exact h
      · refine itn g_7 ?_
        rcases ite_or h with ⟨g_8, h⟩ | ⟨g_8, h⟩
        · refine itp g_8 ?_
          exact h
        · refine itn g_8 ?_
          exact ih _ _ _ _ r hk h
    · refine itn g_2 ?_
      exact h
theorem erasureref22_SameBag.mono   : ∀ (k k' : Nat) (a0 : (List TEntry)) (b1 : (List TEntry)) (r : Bool), k ≤ k' → erasureref22_SameBag k a0 b1 = some r → erasureref22_SameBag k' a0 b1 = some r := by
  intro k k' a0 b1 r hk h
  unfold erasureref22_SameBag at h ⊢
  rcases ite_or h with ⟨g_1, h⟩ | ⟨g_1, h⟩
  · refine itp g_1 ?_
    exact h
  · refine itn g_1 ?_
    exact erasureref22_SameBag.p1.mono _ _ _ _ _ r hk h
theorem erasureref22_SameBag.spec {k : Nat} {a0 : (List TEntry)} {b1 : (List TEntry)} {r : Bool} (h : erasureref22_SameBag k a0 b1 = some r) : Spec Try.prog 36 [.p (eL 2 cEntry dEntry a0), .p (eL 2 cEntry dEntry b1)] (.p (.bool r)) [] :=
  spec_of mix Try.func36 (body := bodyOf Try.f36) (by kernel_rfl) (by kernel_rfl) (erasureref22_SameBag.run h)
end Go.Proofs.YtjhnpaenhdbhpabV
set_option linter.unusedVariables false
set_option linter.unusedSimpArgs false
set_option maxRecDepth 100000
namespace Go.Proofs.YtjhnpaenhdbhpabV
open Go Go.RowKit
noncomputable def erasureref26_SameBag  (k : Nat) (a0 : (List TEntry)) (b1 : (List TEntry)) : Option Bool := (erasureref22_SameBag k a0 b1).bind fun y_1 => (some y_1)
noncomputable def erasureref26_SameBag.t : List Item := [.code (bodyOf Try.f13)]
noncomputable def erasureref26_SameBag.s (a0 : (List TEntry)) (b1 : (List TEntry)) : St := ⟨frOf Try.f13.ntmps 0 [(0, .p (eL 2 cEntry dEntry a0)), (1, .p (eL 2 cEntry dEntry b1))], []⟩
theorem erasureref26_SameBag.run   {k : Nat} {a0 : (List TEntry)} {b1 : (List TEntry)} {r : Bool} (h : erasureref26_SameBag k a0 b1 = some r) : RunC Try.prog Try.f13 erasureref26_SameBag.t (erasureref26_SameBag.s a0 b1) (.p (.bool r)) [] := by
  unfold erasureref26_SameBag at h
  obtain ⟨y_1, e_2, h⟩ := bind_or h
  obtain rfl := Option.some.inj h
  exact RunC.out [.n 3, .r [(2, .call (.p (.bool y_1)) [])]] (by kernel_rfl) (Obs.of (by kernel_rfl) (erasureref22_SameBag.spec e_2))
theorem erasureref26_SameBag.mono   : ∀ (k k' : Nat) (a0 : (List TEntry)) (b1 : (List TEntry)) (r : Bool), k ≤ k' → erasureref26_SameBag k a0 b1 = some r → erasureref26_SameBag k' a0 b1 = some r := by
  intro k k' a0 b1 r hk h
  unfold erasureref26_SameBag at h ⊢
  obtain ⟨y_1, e_2, h⟩ := bind_or h
  refine bnd (erasureref22_SameBag.mono _ _ _ _ _ hk e_2) ?_
  exact h
theorem erasureref26_SameBag.spec {k : Nat} {a0 : (List TEntry)} {b1 : (List TEntry)} {r : Bool} (h : erasureref26_SameBag k a0 b1 = some r) : Spec Try.prog 13 [.p (eL 2 cEntry dEntry a0), .p (eL 2 cEntry dEntry b1)] (.p (.bool r)) [] :=
  spec_of mix Try.func13 (body := bodyOf Try.f13) (by kernel_rfl) (by kernel_rfl) (erasureref26_SameBag.run h)
end Go.Proofs.YtjhnpaenhdbhpabV
set_option linter.unusedVariables false
set_option linter.unusedSimpArgs false
set_option maxRecDepth 100000
namespace Go.Proofs.YtjhnpaenhdbhpabV
open Go Go.RowKit
noncomputable def erasureref01_Compare  (k : Nat) (a0 : TValue) (b1 : TValue) : Option Int := (erasureref01_Clean k a0).bind fun y_1 => ((erasureref01_Clean k b1).bind fun y_3 => (if ((y_1.f0 == y_3.f0) && ((y_1.f1 == y_3.f1) && ((y_1.f2.data.toList == y_3.f2.data.toList) && true))) = true then (some 0) else (if (decide (y_1.f0 < y_3.f0)) = true then (some (-1)) else (if (y_1.f0 == y_3.f0) = true then (if (decide (y_1.f1 < y_3.f1)) = true then (some (-1)) else (if (Op.bytesLess y_1.f2.data.toList y_3.f2.data.toList) = true then (some (-1)) else (some 1))) else (some 1)))))
noncomputable def erasureref01_Compare.t : List Item := [.code (bodyOf Try.f47)]
noncomputable def erasureref01_Compare.s (a0 : TValue) (b1 : TValue) : St := ⟨frOf Try.f47.ntmps 0 [(0, .agg ((cValue a0).map .p)), (1, .agg ((cValue b1).map .p))], []⟩
theorem erasureref01_Compare.run   {k : Nat} {a0 : TValue} {b1 : TValue} {r : Int} (h : erasureref01_Compare k a0 b1 = some r) : RunC Try.prog Try.f47 erasureref01_Compare.t (erasureref01_Compare.s a0 b1) (.p (.int .i64 r)) [] := by
  unfold erasureref01_Compare at h
  obtain ⟨y_1, e_2, h⟩ := bind_or h
  obtain ⟨y_3, e_4, h⟩ := bind_or h
  rcases ite_or h with ⟨g_5, h⟩ | ⟨g_5, h⟩
  · obtain rfl := Option.some.inj h
    exact RunC.out [.n 3, .r [(1, .call (.agg ((cValue y_1).map .p)) []), (3, .call (.agg ((cValue y_3).map .p)) [])], .n 2, .r [(2, .dec true)], .n 3] (by kernel_rfl) (Obs.of (by kernel_rfl) (And.intro (erasureref01_Clean.spec e_2) (And.intro (erasureref01_Clean.spec e_4) g_5)))
  · rcases ite_or h with ⟨g_6, h⟩ | ⟨g_6, h⟩
    · obtain rfl := Option.some.inj h
      exact RunC.out [.n 3, .r [(1, .call (.agg ((cValue y_1).map .p)) []), (3, .call (.agg ((cValue y_3).map .p)) [])], .n 2, .r [(2, .dec false)], .n 4, .r [(5, .dec true)], .n 3] (by kernel_rfl) (Obs.of (by kernel_rfl) (And.intro (erasureref01_Clean.spec e_2) (And.intro (erasureref01_Clean.spec e_4) (And.intro (nt g_5) g_6))))
    · rcases ite_or h with ⟨g_7, h⟩ | ⟨g_7, h⟩
      · rcases ite_or h with ⟨g_8, h⟩ | ⟨g_8, h⟩
        · obtain rfl := Option.some.inj h
          exact RunC.out [.n 3, .r [(1, .call (.agg ((cValue y_1).map .p)) []), (3, .call (.agg ((cValue y_3).map .p)) [])], .n 2, .r [(2, .dec false)], .n 4, .r [(5, .dec false), (11, .dec true), (17, .dec true)], .n 3] (by kernel_rfl) (Obs.of (by kernel_rfl) (And.intro (erasureref01_Clean.spec e_2) (And.intro (erasureref01_Clean.spec e_4) (And.intro (nt g_5) (And.intro (nt g_6) (And.intro g_7 g_8))))))
        · rcases ite_or h with ⟨g_9, h⟩ | ⟨g_9, h⟩
          · obtain rfl := Option.some.inj h
            exact RunC.out [.n 3, .r [(1, .call (.agg ((cValue y_1).map .p)) []), (3, .call (.agg ((cValue y_3).map .p)) [])], .n 2, .r [(2, .dec false)], .n 4, .r [(5, .dec false), (11, .dec true), (17, .dec false), (25, .dec true)], .n 3] (by kernel_rfl) (Obs.of (by kernel_rfl) (And.intro (erasureref01_Clean.spec e_2) (And.intro (erasureref01_Clean.spec e_4) (And.intro (nt g_5) (And.intro (nt g_6) (And.intro g_7 (And.intro (nt g_8) g_9)))))))
          · obtain rfl := Option.some.inj h
            exact RunC.out [.n 3, .r [(1, .call (.agg ((cValue y_1).map .p)) []), (3, .call (.agg ((cValue y_3).map .p)) [])], .n 2, .r [(2, .dec false)], .n 4, .r [(5, .dec false), (11, .dec true), (17, .dec false), (25, .dec false)], .n 4] (by kernel_rfl) (Obs.of (by kernel_rfl) (And.intro (erasureref01_Clean.spec e_2) (And.intro (erasureref01_Clean.spec e_4) (And.intro (nt g_5) (And.intro (nt g_6) (And.intro g_7 (And.intro (nt g_8) (nt g_9))))))))
      · obtain rfl := Option.some.inj h
        exact RunC.out [.n 3, .r [(1, .call (.agg ((cValue y_1).map .p)) []), (3, .call (.agg ((cValue y_3).map .p)) [])], .n 2, .r [(2, .dec false)], .n 4, .r [(5, .dec false), (11, .dec false)], .n 4] (by kernel_rfl) (Obs.of (by kernel_rfl) (And.intro (erasureref01_Clean.spec e_2) (And.intro (erasureref01_Clean.spec e_4) (And.intro (nt g_5) (And.intro (nt g_6) (nt g_7))))))
theorem erasureref01_Compare.mono   : ∀ (k k' : Nat) (a0 : TValue) (b1 : TValue) (r : Int), k ≤ k' → erasureref01_Compare k a0 b1 = some r → erasureref01_Compare k' a0 b1 = some r := by
  intro k k' a0 b1 r hk h
  unfold erasureref01_Compare at h ⊢
  obtain ⟨y_1, e_2, h⟩ := bind_or h
  refine bnd (erasureref01_Clean.mono _ _ _ _ hk e_2) ?_
  obtain ⟨y_3, e_4, h⟩ := bind_or h
  refine bnd (erasureref01_Clean.mono _ _ _ _ hk e_4) ?_
  rcases ite_or h with ⟨g_5, h⟩ | ⟨g_5, h⟩
  · refine itp g_5 ?_
    exact h
  · refine itn g_5 ?_
    rcases ite_or h with ⟨g_6, h⟩ | ⟨g_6, h⟩
    · refine itp g_6 ?_
      exact h
    · refine itn g_6 ?_
      rcases ite_or h with ⟨g_7, h⟩ | ⟨g_7, h⟩
      · refine itp g_7 ?_
        rcases ite_or h with ⟨g_8, h⟩ | ⟨g_8, h⟩
        · refine itp g_8 ?_
          exact h
        · refine itn g_8 ?_
          rcases ite_or h with ⟨g_9, h⟩ | ⟨g_9, h⟩
          · refine itp g_9 ?_
            exact h
          · refine itn g_9 ?_
            exact h
      · refine itn g_7 ?_
        exact h
theorem erasureref01_Compare.spec {k : Nat} {a0 : TValue} {b1 : TValue} {r : Int} (h : erasureref01_Compare k a0 b1 = some r) : Spec Try.prog 47 [.agg ((cValue a0).map .p), .agg ((cValue b1).map .p)] (.p (.int .i64 r)) [] :=
  spec_of mix Try.func47 (body := bodyOf Try.f47) (by kernel_rfl) (by kernel_rfl) (erasureref01_Compare.run h)
end Go.Proofs.YtjhnpaenhdbhpabV
set_option linter.unusedVariables false
set_option linter.unusedSimpArgs false
set_option maxRecDepth 100000
namespace Go.Proofs.YtjhnpaenhdbhpabV
open Go Go.RowKit
noncomputable def erasureref01_ValidRow.p1  : Nat → (List TValue) → Int → Option Bool
  | 0, _, _ => none
  | k + 1, r0, i3 => if (decide (i3 < ((r0).length : Int))) = true then (if 0 ≤ i3 ∧ i3 < ((r0).length : Int) then ((erasureref01_Valid k (r0.getD i3.toNat dValue)).bind fun y_4 => (if (!y_4) = true then (some false) else (erasureref01_ValidRow.p1 k r0 (IntKind.i64.wrap (i3 + 1))))) else none) else (some true)
noncomputable def erasureref01_ValidRow  (k : Nat) (r0 : (List TValue)) : Option Bool := if (decide (((r0).length : Int) > 16)) = true then (some false) else (erasureref01_ValidRow.p1 k r0 0)
noncomputable def erasureref01_ValidRow.t : List Item := [.code (bodyOf Try.f55)]
noncomputable def erasureref01_ValidRow.s (r0 : (List TValue)) : St := ⟨frOf Try.f55.ntmps 0 [(0, .p (eL 3 cValue dValue r0))], []⟩
noncomputable def erasureref01_ValidRow.p1.t : List Item := nav 12 [false] erasureref01_ValidRow.t
noncomputable def erasureref01_ValidRow.p1.s (r0 : (List TValue)) (i3 : Int) : St := ⟨frOf Try.f55.ntmps 0 [(0, .p (eL 3 cValue dValue r0)), (3, .p (.int .i64 i3))], []⟩
theorem erasureref01_ValidRow.p1.run   : ∀ (k : Nat) (r0 : (List TValue)) (i3 : Int) (r : Bool), erasureref01_ValidRow.p1 k r0 i3 = some r → RunC Try.prog Try.f55 erasureref01_ValidRow.p1.t (erasureref01_ValidRow.p1.s r0 i3) (.p (.bool r)) [] := by
  intro k
  induction k with
  | zero => intro r0 i3 r h; simp [erasureref01_ValidRow.p1] at h
  | succ k ih =>
    intro r0 i3 r h
    rw [erasureref01_ValidRow.p1] at h
    rcases ite_or h with ⟨g_2, h⟩ | ⟨g_2, h⟩
    · obtain ⟨g_3, h⟩ := ite_some h
      obtain ⟨y_4, e_5, h⟩ := bind_or h
      rcases ite_or h with ⟨g_6, h⟩ | ⟨g_6, h⟩
      · obtain rfl := Option.some.inj h
        exact RunC.out [.n 2, .r [(3, .dec true)], .n 5, .r [(4, .call (.p (.bool y_4)) []), (5, .dec true)], .n 3] (by kernel_rfl) (Obs.of (by kernel_rfl) (And.intro g_2 (And.intro g_3 (And.intro (erasureref01_Valid.spec e_5) g_6))))
      · exact RunC.go [.n 2, .r [(3, .dec true)], .n 5, .r [(4, .call (.p (.bool y_4)) []), (5, .dec false)], .n 5, .k [0, 3]] (by kernel_rfl) (Obs.of (by kernel_rfl) (And.intro g_2 (And.intro g_3 (And.intro (erasureref01_Valid.spec e_5) (nt g_6))))) (ih _ _ r h)
    · obtain rfl := Option.some.inj h
      exact RunC.out [.n 2, .r [(3, .dec false)], .n 4] (by kernel_rfl) (Obs.of (by kernel_rfl) (nt g_2))
theorem erasureref01_ValidRow.run   {k : Nat} {r0 : (List TValue)} {r : Bool} (h : erasureref01_ValidRow k r0 = some r) : RunC Try.prog Try.f55 erasureref01_ValidRow.t (erasureref01_ValidRow.s r0) (.p (.bool r)) [] := by
  unfold erasureref01_ValidRow at h
  rcases ite_or h with ⟨g_1, h⟩ | ⟨g_1, h⟩
  · obtain rfl := Option.some.inj h
    exact RunC.out [.n 4, .r [(2, .dec true)], .n 3] (by kernel_rfl) (Obs.of (by kernel_rfl) g_1)
  · exact RunC.go [.n 4, .r [(2, .dec false)], .n 7, .k [0, 3]] (by kernel_rfl) (Obs.of (by kernel_rfl) (nt g_1)) (erasureref01_ValidRow.p1.run k _ _ r h)
theorem erasureref01_ValidRow.p1.mono   : ∀ (k k' : Nat) (r0 : (List TValue)) (i3 : Int) (r : Bool), k ≤ k' → erasureref01_ValidRow.p1 k r0 i3 = some r → erasureref01_ValidRow.p1 k' r0 i3 = some r := by
  intro k
  induction k with
  | zero => intro k' r0 i3 r hk h; simp [erasureref01_ValidRow.p1] at h
  | succ k ih =>
    intro k' r0 i3 r hk h
    obtain ⟨k', rfl⟩ : ∃ m, k' = m + 1 := ⟨k' - 1, by omega⟩
    replace hk := Nat.le_of_succ_le_succ hk
    rw [erasureref01_ValidRow.p1] at h ⊢
    rcases ite_or h with ⟨g_2, h⟩ | ⟨g_2, h⟩
    · refine itp g_2 ?_
      obtain ⟨g_3, h⟩ := ite_some h
      refine itp g_3 ?_
      obtain ⟨y_4, e_5, h⟩ := bind_or h
      refine bnd (erasureref01_Valid.mono _ _ _ _ hk e_5) ?_
      rcases ite_or h with ⟨g_6, h⟩ | ⟨g_6, h⟩
      · refine itp g_6 ?_
        exact h
      · refine itn g_6 ?_
        exact ih _ _ _ r hk h
    · refine itn g_2 ?_
      exact h
theorem erasureref01_ValidRow.mono   : ∀ (k k' : Nat) (r0 : (List TValue)) (r : Bool), k ≤ k' → erasureref01_ValidRow k r0 = some r → erasureref01_ValidRow k' r0 = some r := by
  intro k k' r0 r hk h
  unfold erasureref01_ValidRow at h ⊢
  rcases ite_or h with ⟨g_1, h⟩ | ⟨g_1, h⟩
  · refine itp g_1 ?_
    exact h
  · refine itn g_1 ?_
    exact erasureref01_ValidRow.p1.mono _ _ _ _ r hk h
theorem erasureref01_ValidRow.spec {k : Nat} {r0 : (List TValue)} {r : Bool} (h : erasureref01_ValidRow k r0 = some r) : Spec Try.prog 55 [.p (eL 3 cValue dValue r0)] (.p (.bool r)) [] :=
  spec_of mix Try.func55 (body := bodyOf Try.f55) (by kernel_rfl) (by kernel_rfl) (erasureref01_ValidRow.run h)
end Go.Proofs.YtjhnpaenhdbhpabV
set_option linter.unusedVariables false
set_option linter.unusedSimpArgs false
set_option maxRecDepth 100000
namespace Go.Proofs.YtjhnpaenhdbhpabV
open Go Go.RowKit
noncomputable def erasureref06_countOK  (k : Nat) (n0 : Int) : Option Bool := if (decide (n0 ≥ (-262144))) = true then (some (decide (n0 ≤ 262144))) else (some false)
noncomputable def erasureref06_countOK.t : List Item := [.code (bodyOf Try.f56)]
noncomputable def erasureref06_countOK.s (n0 : Int) : St := ⟨frOf Try.f56.ntmps 0 [(0, .p (.int .i64 n0))], []⟩
theorem erasureref06_countOK.run   {k : Nat} {n0 : Int} {r : Bool} (h : erasureref06_countOK k n0 = some r) : RunC Try.prog Try.f56 erasureref06_countOK.t (erasureref06_countOK.s n0) (.p (.bool r)) [] := by
  unfold erasureref06_countOK at h
  rcases ite_or h with ⟨g_1, h⟩ | ⟨g_1, h⟩
  · obtain rfl := Option.some.inj h
    exact RunC.out [.n 3, .r [(2, .dec true)]] (by kernel_rfl) (Obs.of (by kernel_rfl) g_1)
  · obtain rfl := Option.some.inj h
    exact RunC.out [.n 3, .r [(2, .dec false)]] (by kernel_rfl) (Obs.of (by kernel_rfl) (nt g_1))
theorem erasureref06_countOK.mono   : ∀ (k k' : Nat) (n0 : Int) (r : Bool), k ≤ k' → erasureref06_countOK k n0 = some r → erasureref06_countOK k' n0 = some r := by
  intro k k' n0 r hk h
  unfold erasureref06_countOK at h ⊢
  rcases ite_or h with ⟨g_1, h⟩ | ⟨g_1, h⟩
  · refine itp g_1 ?_
    exact h
  · refine itn g_1 ?_
    exact h
theorem erasureref06_countOK.spec {k : Nat} {n0 : Int} {r : Bool} (h : erasureref06_countOK k n0 = some r) : Spec Try.prog 56 [.p (.int .i64 n0)] (.p (.bool r)) [] :=
  spec_of mix Try.func56 (body := bodyOf Try.f56) (by kernel_rfl) (by kernel_rfl) (erasureref06_countOK.run h)
end Go.Proofs.YtjhnpaenhdbhpabV
set_option linter.unusedVariables false
set_option linter.unusedSimpArgs false
set_option maxRecDepth 100000
namespace Go.Proofs.YtjhnpaenhdbhpabV
open Go Go.RowKit
noncomputable def erasureref01_CompareRows.p1  : Nat → (List TValue) → (List TValue) → Int → Option Int
  | 0, _, _, _ => none
  | k + 1, a0, b1, i5 => if (decide (i5 < ((a0).length : Int))) = true then (if (decide (i5 < ((b1).length : Int))) = true then (if 0 ≤ i5 ∧ i5 < ((a0).length : Int) then (if 0 ≤ i5 ∧ i5 < ((b1).length : Int) then ((erasureref01_Compare k (a0.getD i5.toNat dValue) (b1.getD i5.toNat dValue)).bind fun y_5 => (if (y_5 != 0) = true then (some y_5) else (erasureref01_CompareRows.p1 k a0 b1 (IntKind.i64.wrap (i5 + 1))))) else none) else none) else (if (decide (((a0).length : Int) < ((b1).length : Int))) = true then (some (-1)) else (if (decide (((a0).length : Int) > ((b1).length : Int))) = true then (some 1) else (some 0)))) else (if (decide (((a0).length : Int) < ((b1).length : Int))) = true then (some (-1)) else (if (decide (((a0).length : Int) > ((b1).length : Int))) = true then (some 1) else (some 0)))
noncomputable def erasureref01_CompareRows  (k : Nat) (a0 : (List TValue)) (b1 : (List TValue)) : Option Int := erasureref01_CompareRows.p1 k a0 b1 0
noncomputable def erasureref01_CompareRows.t : List Item := [.code (bodyOf Try.f62)]
noncomputable def erasureref01_CompareRows.s (a0 : (List TValue)) (b1 : (List TValue)) : St := ⟨frOf Try.f62.ntmps 0 [(0, .p (eL 3 cValue dValue a0)), (1, .p (eL 3 cValue dValue b1))], []⟩
noncomputable def erasureref01_CompareRows.p1.t : List Item := nav 7 [] erasureref01_CompareRows.t
noncomputable def erasureref01_CompareRows.p1.s (a0 : (List TValue)) (b1 : (List TValue)) (i5 : Int) : St := ⟨frOf Try.f62.ntmps 0 [(0, .p (eL 3 cValue dValue a0)), (1, .p (eL 3 cValue dValue b1)), (5, .p (.int .i64 i5))], []⟩
theorem erasureref01_CompareRows.p1.run   : ∀ (k : Nat) (a0 : (List TValue)) (b1 : (List TValue)) (i5 : Int) (r : Int), erasureref01_CompareRows.p1 k a0 b1 i5 = some r → RunC Try.prog Try.f62 erasureref01_CompareRows.p1.t (erasureref01_CompareRows.p1.s a0 b1 i5) (.p (.int .i64 r)) [] := by
  intro k
  induction k with
  | zero => intro a0 b1 i5 r h; simp [erasureref01_CompareRows.p1] at h
  | succ k ih =>
    intro a0 b1 i5 r h
    rw [erasureref01_CompareRows.p1] at h
    rcases ite_or h with ⟨g_1, h⟩ | ⟨g_1, h⟩
    · rcases ite_or h with ⟨g_2, h⟩ | ⟨g_2, h⟩
      · obtain ⟨g_3, h⟩ := ite_some h
        obtain ⟨g_4, h⟩ := ite_some h
        obtain ⟨y_5, e_6, h⟩ := bind_or h
        rcases ite_or h with ⟨g_7, h⟩ | ⟨g_7, h⟩
        · obtain rfl := Option.some.inj h
          exact RunC.out [.n 2, .r [(4, .dec true), (9, .dec true)], .n 5, .r [(8, .call (.p (.int .i64 y_5)) [])], .n 1, .r [(1, .dec true)], .n 3] (by kernel_rfl) (Obs.of (by kernel_rfl) (And.intro g_1 (And.intro g_2 (And.intro g_3 (And.intro g_4 (And.intro (erasureref01_Compare.spec e_6) g_7))))))
        · exact RunC.go [.n 2, .r [(4, .dec true), (9, .dec true)], .n 5, .r [(8, .call (.p (.int .i64 y_5)) [])], .n 1, .r [(1, .dec false)], .n 5, .k [0, 1, 5]] (by kernel_rfl) (Obs.of (by kernel_rfl) (And.intro g_1 (And.intro g_2 (And.intro g_3 (And.intro g_4 (And.intro (erasureref01_Compare.spec e_6) (nt g_7))))))) (ih _ _ _ r h)
      · rcases ite_or h with ⟨g_8, h⟩ | ⟨g_8, h⟩
        · obtain rfl := Option.some.inj h
          exact RunC.out [.n 2, .r [(4, .dec true), (9, .dec false)], .n 5, .r [(5, .dec true)], .n 3] (by kernel_rfl) (Obs.of (by kernel_rfl) (And.intro g_1 (And.intro (nt g_2) g_8)))
        · rcases ite_or h with ⟨g_9, h⟩ | ⟨g_9, h⟩
          · obtain rfl := Option.some.inj h
            exact RunC.out [.n 2, .r [(4, .dec true), (9, .dec false)], .n 5, .r [(5, .dec false)], .n 2, .r [(5, .dec true)], .n 3] (by kernel_rfl) (Obs.of (by kernel_rfl) (And.intro g_1 (And.intro (nt g_2) (And.intro (nt g_8) g_9))))
          · obtain rfl := Option.some.inj h
            exact RunC.out [.n 2, .r [(4, .dec true), (9, .dec false)], .n 5, .r [(5, .dec false)], .n 2, .r [(5, .dec false)], .n 5] (by kernel_rfl) (Obs.of (by kernel_rfl) (And.intro g_1 (And.intro (nt g_2) (And.intro (nt g_8) (nt g_9)))))
    · rcases ite_or h with ⟨g_10, h⟩ | ⟨g_10, h⟩
      · obtain rfl := Option.some.inj h
        exact RunC.out [.n 2, .r [(4, .dec false)], .n 5, .r [(5, .dec true)], .n 3] (by kernel_rfl) (Obs.of (by kernel_rfl) (And.intro (nt g_1) g_10))
      · rcases ite_or h with ⟨g_11, h⟩ | ⟨g_11, h⟩
        · obtain rfl := Option.some.inj h
          exact RunC.out [.n 2, .r [(4, .dec false)], .n 5, .r [(5, .dec false)], .n 2, .r [(5, .dec true)], .n 3] (by kernel_rfl) (Obs.of (by kernel_rfl) (And.intro (nt g_1) (And.intro (nt g_10) g_11)))
        · obtain rfl := Option.some.inj h
          exact RunC.out [.n 2, .r [(4, .dec false)], .n 5, .r [(5, .dec false)], .n 2, .r [(5, .dec false)], .n 5] (by kernel_rfl) (Obs.of (by kernel_rfl) (And.intro (nt g_1) (And.intro (nt g_10) (nt g_11))))
theorem erasureref01_CompareRows.run   {k : Nat} {a0 : (List TValue)} {b1 : (List TValue)} {r : Int} (h : erasureref01_CompareRows k a0 b1 = some r) : RunC Try.prog Try.f62 erasureref01_CompareRows.t (erasureref01_CompareRows.s a0 b1) (.p (.int .i64 r)) [] := by
  unfold erasureref01_CompareRows at h
  exact RunC.go [.n 7, .k [0, 1, 5]] (by kernel_rfl) (Obs.tt (by kernel_rfl)) (erasureref01_CompareRows.p1.run k _ _ _ r h)
theorem erasureref01_CompareRows.p1.mono   : ∀ (k k' : Nat) (a0 : (List TValue)) (b1 : (List TValue)) (i5 : Int) (r : Int), k ≤ k' → erasureref01_CompareRows.p1 k a0 b1 i5 = some r → erasureref01_CompareRows.p1 k' a0 b1 i5 = some r := by
  intro k
  induction k with
  | zero => intro k' a0 b1 i5 r hk h; simp [erasureref01_CompareRows.p1] at h
  | succ k ih =>
    intro k' a0 b1 i5 r hk h
    obtain ⟨k', rfl⟩ : ∃ m, k' = m + 1 := ⟨k' - 1, by omega⟩
    replace hk := Nat.le_of_succ_le_succ hk
    rw [erasureref01_CompareRows.p1] at h ⊢
    rcases ite_or h with ⟨g_1, h⟩ | ⟨g_1, h⟩
    · refine itp g_1 ?_
      rcases ite_or h with ⟨g_2, h⟩ | ⟨g_2, h⟩
      · refine itp g_2 ?_
        obtain ⟨g_3, h⟩ := ite_some h
        refine itp g_3 ?_
        obtain ⟨g_4, h⟩ := ite_some h
        refine itp g_4 ?_
        obtain ⟨y_5, e_6, h⟩ := bind_or h
        refine bnd (erasureref01_Compare.mono _ _ _ _ _ hk e_6) ?_
        rcases ite_or h with ⟨g_7, h⟩ | ⟨g_7, h⟩
        · refine itp g_7 ?_
          exact h
        · refine itn g_7 ?_
          exact ih _ _ _ _ r hk h
      · refine itn g_2 ?_
        rcases ite_or h with ⟨g_8, h⟩ | ⟨g_8, h⟩
        · refine itp g_8 ?_
          exact h
        · refine itn g_8 ?_
          rcases ite_or h with ⟨g_9, h⟩ | ⟨g_9, h⟩
          · refine itp g_9 ?_
            exact h
          · refine itn g_9 ?_
            exact h
    · refine itn g_1 ?_
      rcases ite_or h with ⟨g_10, h⟩ | ⟨g_10, h⟩
      · refine itp g_10 ?_
        exact h
      · refine itn g_10 ?_
        rcases ite_or h with ⟨g_11, h⟩ | ⟨g_11, h⟩
        · refine itp g_11 ?_
          exact h
        · refine itn g_11 ?_
          exact h
theorem erasureref01_CompareRows.mono   : ∀ (k k' : Nat) (a0 : (List TValue)) (b1 : (List TValue)) (r : Int), k ≤ k' → erasureref01_CompareRows k a0 b1 = some r → erasureref01_CompareRows k' a0 b1 = some r := by
  intro k k' a0 b1 r hk h
  unfold erasureref01_CompareRows at h ⊢
  exact erasureref01_CompareRows.p1.mono _ _ _ _ _ r hk h
theorem erasureref01_CompareRows.spec {k : Nat} {a0 : (List TValue)} {b1 : (List TValue)} {r : Int} (h : erasureref01_CompareRows k a0 b1 = some r) : Spec Try.prog 62 [.p (eL 3 cValue dValue a0), .p (eL 3 cValue dValue b1)] (.p (.int .i64 r)) [] :=
  spec_of mix Try.func62 (body := bodyOf Try.f62) (by kernel_rfl) (by kernel_rfl) (erasureref01_CompareRows.run h)
end Go.Proofs.YtjhnpaenhdbhpabV
set_option linter.unusedVariables false
set_option linter.unusedSimpArgs false
set_option maxRecDepth 100000
namespace Go.Proofs.YtjhnpaenhdbhpabV
open Go Go.RowKit
noncomputable def erasureref06_Valid.p1  : Nat → (List TEntry) → Int → Option Bool
  | 0, _, _ => none
  | k + 1, b0, i3 => if (decide (i3 < ((b0).length : Int))) = true then (if 0 ≤ i3 ∧ i3 < ((b0).length : Int) then ((erasureref01_ValidRow k ((b0.getD i3.toNat dEntry).f0)).bind fun y_4 => (if (!y_4) = true then (some false) else ((erasureref06_countOK k ((b0.getD i3.toNat dEntry).f1)).bind fun y_7 => (if (!y_7) = true then (some false) else (if ((b0.getD i3.toNat dEntry).f1 == 0) = true then (some false) else (if (decide (i3 > 0)) = true then (if 0 ≤ (IntKind.i64.wrap (i3 - 1)) ∧ (IntKind.i64.wrap (i3 - 1)) < ((b0).length : Int) then ((erasureref01_CompareRows k ((b0.getD (IntKind.i64.wrap (i3 - 1)).toNat dEntry).f0) ((b0.getD i3.toNat dEntry).f0)).bind fun y_13 => (if (decide (y_13 ≥ 0)) = true then (some false) else (erasureref06_Valid.p1 k b0 (IntKind.i64.wrap (i3 + 1))))) else none) else (erasureref06_Valid.p1 k b0 (IntKind.i64.wrap (i3 + 1))))))))) else none) else (some true)
noncomputable def erasureref06_Valid  (k : Nat) (b0 : (List TEntry)) : Option Bool := if (decide (((b0).length : Int) > 4096)) = true then (some false) else (erasureref06_Valid.p1 k b0 0)
noncomputable def erasureref06_Valid.t : List Item := [.code (bodyOf Try.f44)]
noncomputable def erasureref06_Valid.s (b0 : (List TEntry)) : St := ⟨frOf Try.f44.ntmps 0 [(0, .p (eL 2 cEntry dEntry b0))], []⟩
noncomputable def erasureref06_Valid.p1.t : List Item := nav 12 [false] erasureref06_Valid.t
noncomputable def erasureref06_Valid.p1.s (b0 : (List TEntry)) (i3 : Int) : St := ⟨frOf Try.f44.ntmps 0 [(0, .p (eL 2 cEntry dEntry b0)), (3, .p (.int .i64 i3))], []⟩
theorem erasureref06_Valid.p1.run   : ∀ (k : Nat) (b0 : (List TEntry)) (i3 : Int) (r : Bool), erasureref06_Valid.p1 k b0 i3 = some r → RunC Try.prog Try.f44 erasureref06_Valid.p1.t (erasureref06_Valid.p1.s b0 i3) (.p (.bool r)) [] := by
  intro k
  induction k with
  | zero => intro b0 i3 r h; simp [erasureref06_Valid.p1] at h
  | succ k ih =>
    intro b0 i3 r h
    rw [erasureref06_Valid.p1] at h
    rcases ite_or h with ⟨g_2, h⟩ | ⟨g_2, h⟩
    · obtain ⟨g_3, h⟩ := ite_some h
      obtain ⟨y_4, e_5, h⟩ := bind_or h
      rcases ite_or h with ⟨g_6, h⟩ | ⟨g_6, h⟩
      · obtain rfl := Option.some.inj h
        exact RunC.out [.n 2, .r [(3, .dec true)], .n 5, .r [(5, .call (.p (.bool y_4)) []), (7, .dec true)], .n 3] (by kernel_rfl) (Obs.of (by kernel_rfl) (And.intro g_2 (And.intro g_3 (And.intro (erasureref01_ValidRow.spec e_5) g_6))))
      · obtain ⟨y_7, e_8, h⟩ := bind_or h
        rcases ite_or h with ⟨g_9, h⟩ | ⟨g_9, h⟩
        · obtain rfl := Option.some.inj h
          exact RunC.out [.n 2, .r [(3, .dec true)], .n 5, .r [(5, .call (.p (.bool y_4)) []), (7, .dec false), (13, .call (.p (.bool y_7)) []), (16, .dec true)], .n 3] (by kernel_rfl) (Obs.of (by kernel_rfl) (And.intro g_2 (And.intro g_3 (And.intro (erasureref01_ValidRow.spec e_5) (And.intro (nt g_6) (And.intro g_3 (And.intro (erasureref06_countOK.spec e_8) g_9)))))))
        · rcases ite_or h with ⟨g_10, h⟩ | ⟨g_10, h⟩
          · obtain rfl := Option.some.inj h
            exact RunC.out [.n 2, .r [(3, .dec true)], .n 5, .r [(5, .call (.p (.bool y_4)) []), (7, .dec false), (13, .call (.p (.bool y_7)) []), (16, .dec false), (24, .dec true)], .n 3] (by kernel_rfl) (Obs.of (by kernel_rfl) (And.intro g_2 (And.intro g_3 (And.intro (erasureref01_ValidRow.spec e_5) (And.intro (nt g_6) (And.intro g_3 (And.intro (erasureref06_countOK.spec e_8) (And.intro (nt g_9) (And.intro g_3 g_10)))))))))
          · rcases ite_or h with ⟨g_11, h⟩ | ⟨g_11, h⟩
            · obtain ⟨g_12, h⟩ := ite_some h
              obtain ⟨y_13, e_14, h⟩ := bind_or h
              rcases ite_or h with ⟨g_15, h⟩ | ⟨g_15, h⟩
              · obtain rfl := Option.some.inj h
                exact RunC.out [.n 2, .r [(3, .dec true)], .n 5, .r [(5, .call (.p (.bool y_4)) []), (7, .dec false), (13, .call (.p (.bool y_7)) []), (16, .dec false), (24, .dec false), (27, .dec true), (39, .call (.p (.int .i64 y_13)) []), (42, .dec true)], .n 3] (by kernel_rfl) (Obs.of (by kernel_rfl) (And.intro g_2 (And.intro g_3 (And.intro (erasureref01_ValidRow.spec e_5) (And.intro (nt g_6) (And.intro g_3 (And.intro (erasureref06_countOK.spec e_8) (And.intro (nt g_9) (And.intro g_3 (And.intro (nt g_10) (And.intro g_11 (And.intro g_12 (And.intro g_3 (And.intro (erasureref01_CompareRows.spec e_14) g_15))))))))))))))
              · exact RunC.go [.n 2, .r [(3, .dec true)], .n 5, .r [(5, .call (.p (.bool y_4)) []), (7, .dec false), (13, .call (.p (.bool y_7)) []), (16, .dec false), (24, .dec false), (27, .dec true), (39, .call (.p (.int .i64 y_13)) []), (42, .dec false)], .n 5, .k [0, 3]] (by kernel_rfl) (Obs.of (by kernel_rfl) (And.intro g_2 (And.intro g_3 (And.intro (erasureref01_ValidRow.spec e_5) (And.intro (nt g_6) (And.intro g_3 (And.intro (erasureref06_countOK.spec e_8) (And.intro (nt g_9) (And.intro g_3 (And.intro (nt g_10) (And.intro g_11 (And.intro g_12 (And.intro g_3 (And.intro (erasureref01_CompareRows.spec e_14) (nt g_15))))))))))))))) (ih _ _ r h)
            · exact RunC.go [.n 2, .r [(3, .dec true)], .n 5, .r [(5, .call (.p (.bool y_4)) []), (7, .dec false), (13, .call (.p (.bool y_7)) []), (16, .dec false), (24, .dec false), (27, .dec false)], .n 5, .k [0, 3]] (by kernel_rfl) (Obs.of (by kernel_rfl) (And.intro g_2 (And.intro g_3 (And.intro (erasureref01_ValidRow.spec e_5) (And.intro (nt g_6) (And.intro g_3 (And.intro (erasureref06_countOK.spec e_8) (And.intro (nt g_9) (And.intro g_3 (And.intro (nt g_10) (nt g_11))))))))))) (ih _ _ r h)
    · obtain rfl := Option.some.inj h
      exact RunC.out [.n 2, .r [(3, .dec false)], .n 4] (by kernel_rfl) (Obs.of (by kernel_rfl) (nt g_2))
theorem erasureref06_Valid.run   {k : Nat} {b0 : (List TEntry)} {r : Bool} (h : erasureref06_Valid k b0 = some r) : RunC Try.prog Try.f44 erasureref06_Valid.t (erasureref06_Valid.s b0) (.p (.bool r)) [] := by
  unfold erasureref06_Valid at h
  rcases ite_or h with ⟨g_1, h⟩ | ⟨g_1, h⟩
  · obtain rfl := Option.some.inj h
    exact RunC.out [.n 4, .r [(2, .dec true)], .n 3] (by kernel_rfl) (Obs.of (by kernel_rfl) g_1)
  · exact RunC.go [.n 4, .r [(2, .dec false)], .n 7, .k [0, 3]] (by kernel_rfl) (Obs.of (by kernel_rfl) (nt g_1)) (erasureref06_Valid.p1.run k _ _ r h)
theorem erasureref06_Valid.p1.mono   : ∀ (k k' : Nat) (b0 : (List TEntry)) (i3 : Int) (r : Bool), k ≤ k' → erasureref06_Valid.p1 k b0 i3 = some r → erasureref06_Valid.p1 k' b0 i3 = some r := by
  intro k
  induction k with
  | zero => intro k' b0 i3 r hk h; simp [erasureref06_Valid.p1] at h
  | succ k ih =>
    intro k' b0 i3 r hk h
    obtain ⟨k', rfl⟩ : ∃ m, k' = m + 1 := ⟨k' - 1, by omega⟩
    replace hk := Nat.le_of_succ_le_succ hk
    rw [erasureref06_Valid.p1] at h ⊢
    rcases ite_or h with ⟨g_2, h⟩ | ⟨g_2, h⟩
    · refine itp g_2 ?_
      obtain ⟨g_3, h⟩ := ite_some h
      refine itp g_3 ?_
      obtain ⟨y_4, e_5, h⟩ := bind_or h
      refine bnd (erasureref01_ValidRow.mono _ _ _ _ hk e_5) ?_
      rcases ite_or h with ⟨g_6, h⟩ | ⟨g_6, h⟩
      · refine itp g_6 ?_
        exact h
      · refine itn g_6 ?_
        obtain ⟨y_7, e_8, h⟩ := bind_or h
        refine bnd (erasureref06_countOK.mono _ _ _ _ hk e_8) ?_
        rcases ite_or h with ⟨g_9, h⟩ | ⟨g_9, h⟩
        · refine itp g_9 ?_
          exact h
        · refine itn g_9 ?_
          rcases ite_or h with ⟨g_10, h⟩ | ⟨g_10, h⟩
          · refine itp g_10 ?_
            exact h
          · refine itn g_10 ?_
            rcases ite_or h with ⟨g_11, h⟩ | ⟨g_11, h⟩
            · refine itp g_11 ?_
              obtain ⟨g_12, h⟩ := ite_some h
              refine itp g_12 ?_
              obtain ⟨y_13, e_14, h⟩ := bind_or h
              refine bnd (erasureref01_CompareRows.mono _ _ _ _ _ hk e_14) ?_
              rcases ite_or h with ⟨g_15, h⟩ | ⟨g_15, h⟩
              · refine itp g_15 ?_
                exact h
              · refine itn g_15 ?_
                exact ih _ _ _ r hk h
            · refine itn g_11 ?_
              exact ih _ _ _ r hk h
    · refine itn g_2 ?_
      exact h
theorem erasureref06_Valid.mono   : ∀ (k k' : Nat) (b0 : (List TEntry)) (r : Bool), k ≤ k' → erasureref06_Valid k b0 = some r → erasureref06_Valid k' b0 = some r := by
  intro k k' b0 r hk h
  unfold erasureref06_Valid at h ⊢
  rcases ite_or h with ⟨g_1, h⟩ | ⟨g_1, h⟩
  · refine itp g_1 ?_
    exact h
  · refine itn g_1 ?_
    exact erasureref06_Valid.p1.mono _ _ _ _ r hk h
theorem erasureref06_Valid.spec {k : Nat} {b0 : (List TEntry)} {r : Bool} (h : erasureref06_Valid k b0 = some r) : Spec Try.prog 44 [.p (eL 2 cEntry dEntry b0)] (.p (.bool r)) [] :=
  spec_of mix Try.func44 (body := bodyOf Try.f44) (by kernel_rfl) (by kernel_rfl) (erasureref06_Valid.run h)
end Go.Proofs.YtjhnpaenhdbhpabV
set_option linter.unusedVariables false
set_option linter.unusedSimpArgs false
set_option maxRecDepth 100000
namespace Go.Proofs.YtjhnpaenhdbhpabV
open Go Go.RowKit
noncomputable def erasureref30_Valid.p1  : Nat → (List TCached) → Int → Option Bool
  | 0, _, _ => none
  | k + 1, s0, i3 => if (decide (i3 < ((s0).length : Int))) = true then (if 0 ≤ i3 ∧ i3 < ((s0).length : Int) then ((erasureref01_Valid k ((s0.getD i3.toNat dCached).f0)).bind fun y_3 => (if (!y_3) = true then (some false) else (if (decide (i3 > 0)) = true then (if 0 ≤ (IntKind.i64.wrap (i3 - 1)) ∧ (IntKind.i64.wrap (i3 - 1)) < ((s0).length : Int) then ((erasureref01_Compare k ((s0.getD (IntKind.i64.wrap (i3 - 1)).toNat dCached).f0) ((s0.getD i3.toNat dCached).f0)).bind fun y_8 => (if (decide (y_8 ≥ 0)) = true then (some false) else ((erasureref06_Valid k ((s0.getD i3.toNat dCached).f1)).bind fun y_11 => (if (!y_11) = true then (some false) else (if (decide ((s0.getD i3.toNat dCached).f2 < 0)) = true then (some false) else (if (decide ((s0.getD i3.toNat dCached).f2 > 1048576)) = true then (some false) else (erasureref30_Valid.p1 k s0 (IntKind.i64.wrap (i3 + 1))))))))) else none) else ((erasureref06_Valid k ((s0.getD i3.toNat dCached).f1)).bind fun y_16 => (if (!y_16) = true then (some false) else (if (decide ((s0.getD i3.toNat dCached).f2 < 0)) = true then (some false) else (if (decide ((s0.getD i3.toNat dCached).f2 > 1048576)) = true then (some false) else (erasureref30_Valid.p1 k s0 (IntKind.i64.wrap (i3 + 1)))))))))) else none) else (some (decide (((s0).length : Int) ≤ 16)))
noncomputable def erasureref30_Valid  (k : Nat) (s0 : (List TCached)) : Option Bool := erasureref30_Valid.p1 k s0 0
noncomputable def erasureref30_Valid.t : List Item := [.code (bodyOf Try.f31)]
noncomputable def erasureref30_Valid.s (s0 : (List TCached)) : St := ⟨frOf Try.f31.ntmps 0 [(0, .p (eL 5 cCached dCached s0))], []⟩
noncomputable def erasureref30_Valid.p1.t : List Item := nav 7 [] erasureref30_Valid.t
noncomputable def erasureref30_Valid.p1.s (s0 : (List TCached)) (i3 : Int) : St := ⟨frOf Try.f31.ntmps 0 [(0, .p (eL 5 cCached dCached s0)), (3, .p (.int .i64 i3))], []⟩
theorem erasureref30_Valid.p1.run   : ∀ (k : Nat) (s0 : (List TCached)) (i3 : Int) (r : Bool), erasureref30_Valid.p1 k s0 i3 = some r → RunC Try.prog Try.f31 erasureref30_Valid.p1.t (erasureref30_Valid.p1.s s0 i3) (.p (.bool r)) [] := by
  intro k
  induction k with
  | zero => intro s0 i3 r h; simp [erasureref30_Valid.p1] at h
  | succ k ih =>
    intro s0 i3 r h
    rw [erasureref30_Valid.p1] at h
    rcases ite_or h with ⟨g_1, h⟩ | ⟨g_1, h⟩
    · obtain ⟨g_2, h⟩ := ite_some h
      obtain ⟨y_3, e_4, h⟩ := bind_or h
      rcases ite_or h with ⟨g_5, h⟩ | ⟨g_5, h⟩
      · obtain rfl := Option.some.inj h
        exact RunC.out [.n 2, .r [(3, .dec true)], .n 5, .r [(5, .call (.p (.bool y_3)) []), (7, .dec true)], .n 3] (by kernel_rfl) (Obs.of (by kernel_rfl) (And.intro g_1 (And.intro g_2 (And.intro (erasureref01_Valid.spec e_4) g_5))))
      · rcases ite_or h with ⟨g_6, h⟩ | ⟨g_6, h⟩
        · obtain ⟨g_7, h⟩ := ite_some h
          obtain ⟨y_8, e_9, h⟩ := bind_or h
          rcases ite_or h with ⟨g_10, h⟩ | ⟨g_10, h⟩
          · obtain rfl := Option.some.inj h
            exact RunC.out [.n 2, .r [(3, .dec true)], .n 5, .r [(5, .call (.p (.bool y_3)) []), (7, .dec false), (10, .dec true), (22, .call (.p (.int .i64 y_8)) []), (26, .dec true)], .n 3] (by kernel_rfl) (Obs.of (by kernel_rfl) (And.intro g_1 (And.intro g_2 (And.intro (erasureref01_Valid.spec e_4) (And.intro (nt g_5) (And.intro g_6 (And.intro g_7 (And.intro g_2 (And.intro (erasureref01_Compare.spec e_9) g_10)))))))))
          · obtain ⟨y_11, e_12, h⟩ := bind_or h
            rcases ite_or h with ⟨g_13, h⟩ | ⟨g_13, h⟩
            · obtain rfl := Option.some.inj h
              exact RunC.out [.n 2, .r [(3, .dec true)], .n 5, .r [(5, .call (.p (.bool y_3)) []), (7, .dec false), (10, .dec true), (22, .call (.p (.int .i64 y_8)) []), (26, .dec false), (32, .call (.p (.bool y_11)) []), (35, .dec true)], .n 3] (by kernel_rfl) (Obs.of (by kernel_rfl) (And.intro g_1 (And.intro g_2 (And.intro (erasureref01_Valid.spec e_4) (And.intro (nt g_5) (And.intro g_6 (And.intro g_7 (And.intro g_2 (And.intro (erasureref01_Compare.spec e_9) (And.intro (nt g_10) (And.intro g_2 (And.intro (erasureref06_Valid.spec e_12) g_13))))))))))))
            · rcases ite_or h with ⟨g_14, h⟩ | ⟨g_14, h⟩
              · obtain rfl := Option.some.inj h
                exact RunC.out [.n 2, .r [(3, .dec true)], .n 5, .r [(5, .call (.p (.bool y_3)) []), (7, .dec false), (10, .dec true), (22, .call (.p (.int .i64 y_8)) []), (26, .dec false), (32, .call (.p (.bool y_11)) []), (35, .dec false), (43, .dec true)], .n 3] (by kernel_rfl) (Obs.of (by kernel_rfl) (And.intro g_1 (And.intro g_2 (And.intro (erasureref01_Valid.spec e_4) (And.intro (nt g_5) (And.intro g_6 (And.intro g_7 (And.intro g_2 (And.intro (erasureref01_Compare.spec e_9) (And.intro (nt g_10) (And.intro g_2 (And.intro (erasureref06_Valid.spec e_12) (And.intro (nt g_13) (And.intro g_2 g_14))))))))))))))
              · rcases ite_or h with ⟨g_15, h⟩ | ⟨g_15, h⟩
                · obtain rfl := Option.some.inj h
                  exact RunC.out [.n 2, .r [(3, .dec true)], .n 5, .r [(5, .call (.p (.bool y_3)) []), (7, .dec false), (10, .dec true), (22, .call (.p (.int .i64 y_8)) []), (26, .dec false), (32, .call (.p (.bool y_11)) []), (35, .dec false), (43, .dec false), (50, .dec true)], .n 3] (by kernel_rfl) (Obs.of (by kernel_rfl) (And.intro g_1 (And.intro g_2 (And.intro (erasureref01_Valid.spec e_4) (And.intro (nt g_5) (And.intro g_6 (And.intro g_7 (And.intro g_2 (And.intro (erasureref01_Compare.spec e_9) (And.intro (nt g_10) (And.intro g_2 (And.intro (erasureref06_Valid.spec e_12) (And.intro (nt g_13) (And.intro g_2 (And.intro (nt g_14) (And.intro g_2 g_15))))))))))))))))
                · exact RunC.go [.n 2, .r [(3, .dec true)], .n 5, .r [(5, .call (.p (.bool y_3)) []), (7, .dec false), (10, .dec true), (22, .call (.p (.int .i64 y_8)) []), (26, .dec false), (32, .call (.p (.bool y_11)) []), (35, .dec false), (43, .dec false), (50, .dec false)], .n 5, .k [0, 3]] (by kernel_rfl) (Obs.of (by kernel_rfl) (And.intro g_1 (And.intro g_2 (And.intro (erasureref01_Valid.spec e_4) (And.intro (nt g_5) (And.intro g_6 (And.intro g_7 (And.intro g_2 (And.intro (erasureref01_Compare.spec e_9) (And.intro (nt g_10) (And.intro g_2 (And.intro (erasureref06_Valid.spec e_12) (And.intro (nt g_13) (And.intro g_2 (And.intro (nt g_14) (And.intro g_2 (nt g_15))))))))))))))))) (ih _ _ r h)
        · obtain ⟨y_16, e_17, h⟩ := bind_or h
          rcases ite_or h with ⟨g_18, h⟩ | ⟨g_18, h⟩
          · obtain rfl := Option.some.inj h
            exact RunC.out [.n 2, .r [(3, .dec true)], .n 5, .r [(5, .call (.p (.bool y_3)) []), (7, .dec false), (10, .dec false), (32, .call (.p (.bool y_16)) []), (35, .dec true)], .n 3] (by kernel_rfl) (Obs.of (by kernel_rfl) (And.intro g_1 (And.intro g_2 (And.intro (erasureref01_Valid.spec e_4) (And.intro (nt g_5) (And.intro (nt g_6) (And.intro g_2 (And.intro (erasureref06_Valid.spec e_17) g_18))))))))
          · rcases ite_or h with ⟨g_19, h⟩ | ⟨g_19, h⟩
            · obtain rfl := Option.some.inj h
              exact RunC.out [.n 2, .r [(3, .dec true)], .n 5, .r [(5, .call (.p (.bool y_3)) []), (7, .dec false), (10, .dec false), (32, .call (.p (.bool y_16)) []), (35, .dec false), (43, .dec true)], .n 3] (by kernel_rfl) (Obs.of (by kernel_rfl) (And.intro g_1 (And.intro g_2 (And.intro (erasureref01_Valid.spec e_4) (And.intro (nt g_5) (And.intro (nt g_6) (And.intro g_2 (And.intro (erasureref06_Valid.spec e_17) (And.intro (nt g_18) (And.intro g_2 g_19))))))))))
            · rcases ite_or h with ⟨g_20, h⟩ | ⟨g_20, h⟩
              · obtain rfl := Option.some.inj h
                exact RunC.out [.n 2, .r [(3, .dec true)], .n 5, .r [(5, .call (.p (.bool y_3)) []), (7, .dec false), (10, .dec false), (32, .call (.p (.bool y_16)) []), (35, .dec false), (43, .dec false), (50, .dec true)], .n 3] (by kernel_rfl) (Obs.of (by kernel_rfl) (And.intro g_1 (And.intro g_2 (And.intro (erasureref01_Valid.spec e_4) (And.intro (nt g_5) (And.intro (nt g_6) (And.intro g_2 (And.intro (erasureref06_Valid.spec e_17) (And.intro (nt g_18) (And.intro g_2 (And.intro (nt g_19) (And.intro g_2 g_20))))))))))))
              · exact RunC.go [.n 2, .r [(3, .dec true)], .n 5, .r [(5, .call (.p (.bool y_3)) []), (7, .dec false), (10, .dec false), (32, .call (.p (.bool y_16)) []), (35, .dec false), (43, .dec false), (50, .dec false)], .n 5, .k [0, 3]] (by kernel_rfl) (Obs.of (by kernel_rfl) (And.intro g_1 (And.intro g_2 (And.intro (erasureref01_Valid.spec e_4) (And.intro (nt g_5) (And.intro (nt g_6) (And.intro g_2 (And.intro (erasureref06_Valid.spec e_17) (And.intro (nt g_18) (And.intro g_2 (And.intro (nt g_19) (And.intro g_2 (nt g_20))))))))))))) (ih _ _ r h)
    · obtain rfl := Option.some.inj h
      exact RunC.out [.n 2, .r [(3, .dec false)], .n 4] (by kernel_rfl) (Obs.of (by kernel_rfl) (nt g_1))
theorem erasureref30_Valid.run   {k : Nat} {s0 : (List TCached)} {r : Bool} (h : erasureref30_Valid k s0 = some r) : RunC Try.prog Try.f31 erasureref30_Valid.t (erasureref30_Valid.s s0) (.p (.bool r)) [] := by
  unfold erasureref30_Valid at h
  exact RunC.go [.n 7, .k [0, 3]] (by kernel_rfl) (Obs.tt (by kernel_rfl)) (erasureref30_Valid.p1.run k _ _ r h)
theorem erasureref30_Valid.p1.mono   : ∀ (k k' : Nat) (s0 : (List TCached)) (i3 : Int) (r : Bool), k ≤ k' → erasureref30_Valid.p1 k s0 i3 = some r → erasureref30_Valid.p1 k' s0 i3 = some r := by
  intro k
  induction k with
  | zero => intro k' s0 i3 r hk h; simp [erasureref30_Valid.p1] at h
  | succ k ih =>
    intro k' s0 i3 r hk h
    obtain ⟨k', rfl⟩ : ∃ m, k' = m + 1 := ⟨k' - 1, by omega⟩
    replace hk := Nat.le_of_succ_le_succ hk
    rw [erasureref30_Valid.p1] at h ⊢
    rcases ite_or h with ⟨g_1, h⟩ | ⟨g_1, h⟩
    · refine itp g_1 ?_
      obtain ⟨g_2, h⟩ := ite_some h
      refine itp g_2 ?_
      obtain ⟨y_3, e_4, h⟩ := bind_or h
      refine bnd (erasureref01_Valid.mono _ _ _ _ hk e_4) ?_
      rcases ite_or h with ⟨g_5, h⟩ | ⟨g_5, h⟩
      · refine itp g_5 ?_
        exact h
      · refine itn g_5 ?_
        rcases ite_or h with ⟨g_6, h⟩ | ⟨g_6, h⟩
        · refine itp g_6 ?_
          obtain ⟨g_7, h⟩ := ite_some h
          refine itp g_7 ?_
          obtain ⟨y_8, e_9, h⟩ := bind_or h
          refine bnd (erasureref01_Compare.mono _ _ _ _ _ hk e_9) ?_
          rcases ite_or h with ⟨g_10, h⟩ | ⟨g_10, h⟩
          · refine itp g_10 ?_
            exact h
          · refine itn g_10 ?_
            obtain ⟨y_11, e_12, h⟩ := bind_or h
            refine bnd (erasureref06_Valid.mono _ _ _ _ hk e_12) ?_
            rcases ite_or h with ⟨g_13, h⟩ | ⟨g_13, h⟩
            · refine itp g_13 ?_
              exact h
            · refine itn g_13 ?_
              rcases ite_or h with ⟨g_14, h⟩ | ⟨g_14, h⟩
              · refine itp g_14 ?_
                exact h
              · refine itn g_14 ?_
                rcases ite_or h with ⟨g_15, h⟩ | ⟨g_15, h⟩
                · refine itp g_15 ?_
                  exact h
                · refine itn g_15 ?_
                  exact ih _ _ _ r hk h
        · refine itn g_6 ?_
          obtain ⟨y_16, e_17, h⟩ := bind_or h
          refine bnd (erasureref06_Valid.mono _ _ _ _ hk e_17) ?_
          rcases ite_or h with ⟨g_18, h⟩ | ⟨g_18, h⟩
          · refine itp g_18 ?_
            exact h
          · refine itn g_18 ?_
            rcases ite_or h with ⟨g_19, h⟩ | ⟨g_19, h⟩
            · refine itp g_19 ?_
              exact h
            · refine itn g_19 ?_
              rcases ite_or h with ⟨g_20, h⟩ | ⟨g_20, h⟩
              · refine itp g_20 ?_
                exact h
              · refine itn g_20 ?_
                exact ih _ _ _ r hk h
    · refine itn g_1 ?_
      exact h
theorem erasureref30_Valid.mono   : ∀ (k k' : Nat) (s0 : (List TCached)) (r : Bool), k ≤ k' → erasureref30_Valid k s0 = some r → erasureref30_Valid k' s0 = some r := by
  intro k k' s0 r hk h
  unfold erasureref30_Valid at h ⊢
  exact erasureref30_Valid.p1.mono _ _ _ _ r hk h
theorem erasureref30_Valid.spec {k : Nat} {s0 : (List TCached)} {r : Bool} (h : erasureref30_Valid k s0 = some r) : Spec Try.prog 31 [.p (eL 5 cCached dCached s0)] (.p (.bool r)) [] :=
  spec_of mix Try.func31 (body := bodyOf Try.f31) (by kernel_rfl) (by kernel_rfl) (erasureref30_Valid.run h)
end Go.Proofs.YtjhnpaenhdbhpabV
set_option linter.unusedVariables false
set_option linter.unusedSimpArgs false
set_option maxRecDepth 100000
namespace Go.Proofs.YtjhnpaenhdbhpabV
open Go Go.RowKit
noncomputable def erasureref30_ranged  (k : Nat) (c0 : TCache) (day1 : Int) : Option Bool := if (decide (c0.f3 ≥ 0)) = true then (if (decide (c0.f3 ≤ 1048576)) = true then (if (decide (day1 ≥ 0)) = true then (some (decide (day1 ≤ 1048576))) else (some false)) else (some false)) else (some false)
noncomputable def erasureref30_ranged.t : List Item := [.code (bodyOf Try.f45)]
noncomputable def erasureref30_ranged.s (c0 : TCache) (day1 : Int) : St := ⟨frOf Try.f45.ntmps 0 [(0, .agg ((cCache c0).map .p)), (1, .p (.int .i64 day1))], []⟩
theorem erasureref30_ranged.run   {k : Nat} {c0 : TCache} {day1 : Int} {r : Bool} (h : erasureref30_ranged k c0 day1 = some r) : RunC Try.prog Try.f45 erasureref30_ranged.t (erasureref30_ranged.s c0 day1) (.p (.bool r)) [] := by
  unfold erasureref30_ranged at h
  rcases ite_or h with ⟨g_1, h⟩ | ⟨g_1, h⟩
  · rcases ite_or h with ⟨g_2, h⟩ | ⟨g_2, h⟩
    · rcases ite_or h with ⟨g_3, h⟩ | ⟨g_3, h⟩
      · obtain rfl := Option.some.inj h
        exact RunC.out [.n 3, .r [(3, .dec true), (8, .dec true), (12, .dec true)]] (by kernel_rfl) (Obs.of (by kernel_rfl) (And.intro g_1 (And.intro g_2 g_3)))
      · obtain rfl := Option.some.inj h
        exact RunC.out [.n 3, .r [(3, .dec true), (8, .dec true), (12, .dec false)]] (by kernel_rfl) (Obs.of (by kernel_rfl) (And.intro g_1 (And.intro g_2 (nt g_3))))
    · obtain rfl := Option.some.inj h
      exact RunC.out [.n 3, .r [(3, .dec true), (8, .dec false)]] (by kernel_rfl) (Obs.of (by kernel_rfl) (And.intro g_1 (nt g_2)))
  · obtain rfl := Option.some.inj h
    exact RunC.out [.n 3, .r [(3, .dec false)]] (by kernel_rfl) (Obs.of (by kernel_rfl) (nt g_1))
theorem erasureref30_ranged.mono   : ∀ (k k' : Nat) (c0 : TCache) (day1 : Int) (r : Bool), k ≤ k' → erasureref30_ranged k c0 day1 = some r → erasureref30_ranged k' c0 day1 = some r := by
  intro k k' c0 day1 r hk h
  unfold erasureref30_ranged at h ⊢
  rcases ite_or h with ⟨g_1, h⟩ | ⟨g_1, h⟩
  · refine itp g_1 ?_
    rcases ite_or h with ⟨g_2, h⟩ | ⟨g_2, h⟩
    · refine itp g_2 ?_
      rcases ite_or h with ⟨g_3, h⟩ | ⟨g_3, h⟩
      · refine itp g_3 ?_
        exact h
      · refine itn g_3 ?_
        exact h
    · refine itn g_2 ?_
      exact h
  · refine itn g_1 ?_
    exact h
theorem erasureref30_ranged.spec {k : Nat} {c0 : TCache} {day1 : Int} {r : Bool} (h : erasureref30_ranged k c0 day1 = some r) : Spec Try.prog 45 [.agg ((cCache c0).map .p), .p (.int .i64 day1)] (.p (.bool r)) [] :=
  spec_of mix Try.func45 (body := bodyOf Try.f45) (by kernel_rfl) (by kernel_rfl) (erasureref30_ranged.run h)
end Go.Proofs.YtjhnpaenhdbhpabV
set_option linter.unusedVariables false
set_option linter.unusedSimpArgs false
set_option maxRecDepth 100000
namespace Go.Proofs.YtjhnpaenhdbhpabV
open Go Go.RowKit
noncomputable def erasureref30_Expire.p1  : Nat → (List TCached) → Int → Int → TCache → (List TCached) → Option (List TCached)
  | 0, _, _, _, _, _ => none
  | k + 1, s1, day2, i8, c3b, out7 => if (decide (i8 < ((s1).length : Int))) = true then (if 0 ≤ i8 ∧ i8 < ((s1).length : Int) then (if (decide (day2 ≥ (s1.getD i8.toNat dCached).f2)) = true then (if (decide (day2 < (IntKind.i64.wrap ((s1.getD i8.toNat dCached).f2 + c3b.f3)))) = true then (if (out7).length + ([(s1.getD i8.toNat dCached)]).length ≤ maxLen ∧ ((out7).length + ([(s1.getD i8.toNat dCached)]).length) * 64 ≤ 140737488355328 then (erasureref30_Expire.p1 k s1 day2 (IntKind.i64.wrap (i8 + 1)) c3b (out7 ++ ([(s1.getD i8.toNat dCached)]))) else none) else (erasureref30_Expire.p1 k s1 day2 (IntKind.i64.wrap (i8 + 1)) c3b out7)) else (erasureref30_Expire.p1 k s1 day2 (IntKind.i64.wrap (i8 + 1)) c3b out7)) else none) else (some out7)
noncomputable def erasureref30_Expire  (k : Nat) (c0 : TCache) (s1 : (List TCached)) (day2 : Int) : Option (List TCached) := (erasureref30_Valid k s1).bind fun y_1 => (if (!y_1) = true then (some ([] : List TCached)) else ((erasureref30_ranged k c0 day2).bind fun y_4 => (if (!y_4) = true then (some ([] : List TCached)) else (erasureref30_Expire.p1 k s1 day2 0 c0 ([] : List TCached)))))
noncomputable def erasureref30_Expire.t : List Item := [.code (bodyOf Try.f26)]
noncomputable def erasureref30_Expire.s (c0 : TCache) (s1 : (List TCached)) (day2 : Int) : St := ⟨frOf Try.f26.ntmps 0 [(0, .agg ((cCache c0).map .p)), (1, .p (eL 5 cCached dCached s1)), (2, .p (.int .i64 day2))], []⟩
noncomputable def erasureref30_Expire.p1.t : List Item := nav 14 [false] erasureref30_Expire.t
noncomputable def erasureref30_Expire.p1.s (s1 : (List TCached)) (day2 : Int) (i8 : Int) (c3b : TCache) (out7 : (List TCached)) : St := ⟨frOf Try.f26.ntmps 0 [(1, .p (eL 5 cCached dCached s1)), (2, .p (.int .i64 day2)), (3, .ptr 0 0 0), (7, .sref 1 46 5 (out7).length), (8, .p (.int .i64 i8))], [.box ((cCache c3b).map .p), (oL true 46 5 cCached dCached out7)]⟩
theorem erasureref30_Expire.p1.run   : ∀ (k : Nat) (s1 : (List TCached)) (day2 : Int) (i8 : Int) (c3b : TCache) (out7 : (List TCached)) (r : (List TCached)), erasureref30_Expire.p1 k s1 day2 i8 c3b out7 = some r → RunC Try.prog Try.f26 erasureref30_Expire.p1.t (erasureref30_Expire.p1.s s1 day2 i8 c3b out7) (.sref 0 46 5 (r).length) [(oL true 46 5 cCached dCached (r))] := by
  intro k
  induction k with
  | zero => intro s1 day2 i8 c3b out7 r h; simp [erasureref30_Expire.p1] at h
  | succ k ih =>
    intro s1 day2 i8 c3b out7 r h
    rw [erasureref30_Expire.p1] at h
    rcases ite_or h with ⟨g_7, h⟩ | ⟨g_7, h⟩
    · obtain ⟨g_8, h⟩ := ite_some h
      rcases ite_or h with ⟨g_9, h⟩ | ⟨g_9, h⟩
      · rcases ite_or h with ⟨g_10, h⟩ | ⟨g_10, h⟩
        · obtain ⟨g_11, h⟩ := ite_some h
          exact RunC.go [.n 2, .r [(3, .dec true)], .n 5, .r [(7, .dec true), (18, .dec true)], .n 1, .r [(5, .obj (oL true 46 5 cCached dCached [(s1.getD i8.toNat dCached)])), (6, .obj (oL true 46 5 cCached dCached (out7 ++ ([(s1.getD i8.toNat dCached)]))))], .n 3, .k [1, 2, 3, 7, 8]] (by kernel_rfl) (Obs.of (by kernel_rfl) (And.intro g_7 (And.intro g_8 (And.intro g_9 (And.intro g_8 (And.intro g_10 (And.intro g_8 (And.intro (le_one 46 5 cCached dCached (s1.getD i8.toNat dCached)) (And.intro g_11 (le_app 46 5 cCached dCached out7 ([(s1.getD i8.toNat dCached)]))))))))))) (ih _ _ _ _ _ r h)
        · exact RunC.go [.n 2, .r [(3, .dec true)], .n 5, .r [(7, .dec true), (18, .dec false)], .n 5, .k [1, 2, 3, 7, 8]] (by kernel_rfl) (Obs.of (by kernel_rfl) (And.intro g_7 (And.intro g_8 (And.intro g_9 (And.intro g_8 (nt g_10)))))) (ih _ _ _ _ _ r h)
      · exact RunC.go [.n 2, .r [(3, .dec true)], .n 5, .r [(7, .dec false)], .n 5, .k [1, 2, 3, 7, 8]] (by kernel_rfl) (Obs.of (by kernel_rfl) (And.intro g_7 (And.intro g_8 (nt g_9)))) (ih _ _ _ _ _ r h)
    · obtain rfl := Option.some.inj h
      exact RunC.out [.n 2, .r [(3, .dec false)], .n 4] (by kernel_rfl) (Obs.of (by kernel_rfl) (nt g_7))
theorem erasureref30_Expire.run   {k : Nat} {c0 : TCache} {s1 : (List TCached)} {day2 : Int} {r : (List TCached)} (h : erasureref30_Expire k c0 s1 day2 = some r) : RunC Try.prog Try.f26 erasureref30_Expire.t (erasureref30_Expire.s c0 s1 day2) (.sref 0 46 5 (r).length) [(oL true 46 5 cCached dCached (r))] := by
  unfold erasureref30_Expire at h
  obtain ⟨y_1, e_2, h⟩ := bind_or h
  rcases ite_or h with ⟨g_3, h⟩ | ⟨g_3, h⟩
  · obtain rfl := Option.some.inj h
    exact RunC.out [.n 1, .r [(1, .obj (oL true 46 5 cCached dCached ([] : List TCached)))], .n 2, .r [(1, .call (.p (.bool y_1)) []), (3, .dec true)], .n 2, .r [(0, .obj (oL true 46 5 cCached dCached ([] : List TCached)))]] (by kernel_rfl) (Obs.of (by kernel_rfl) (And.intro (le_nil 46 5 cCached dCached) (And.intro (erasureref30_Valid.spec e_2) (And.intro g_3 (le_nil 46 5 cCached dCached)))))
  · obtain ⟨y_4, e_5, h⟩ := bind_or h
    rcases ite_or h with ⟨g_6, h⟩ | ⟨g_6, h⟩
    · obtain rfl := Option.some.inj h
      exact RunC.out [.n 1, .r [(1, .obj (oL true 46 5 cCached dCached ([] : List TCached)))], .n 2, .r [(1, .call (.p (.bool y_1)) []), (3, .dec false), (6, .call (.p (.bool y_4)) []), (8, .dec true)], .n 2, .r [(0, .obj (oL true 46 5 cCached dCached ([] : List TCached)))]] (by kernel_rfl) (Obs.of (by kernel_rfl) (And.intro (le_nil 46 5 cCached dCached) (And.intro (erasureref30_Valid.spec e_2) (And.intro (nt g_3) (And.intro (erasureref30_ranged.spec e_5) (And.intro g_6 (le_nil 46 5 cCached dCached)))))))
    · exact RunC.go [.n 1, .r [(1, .obj (oL true 46 5 cCached dCached ([] : List TCached)))], .n 2, .r [(1, .call (.p (.bool y_1)) []), (3, .dec false), (6, .call (.p (.bool y_4)) []), (8, .dec false)], .n 3, .r [(0, .obj (oL true 46 5 cCached dCached ([] : List TCached)))], .n 5, .k [1, 2, 3, 7, 8]] (by kernel_rfl) (Obs.of (by kernel_rfl) (And.intro (le_nil 46 5 cCached dCached) (And.intro (erasureref30_Valid.spec e_2) (And.intro (nt g_3) (And.intro (erasureref30_ranged.spec e_5) (And.intro (nt g_6) (le_nil 46 5 cCached dCached))))))) (erasureref30_Expire.p1.run k _ _ _ _ _ r h)
theorem erasureref30_Expire.p1.mono   : ∀ (k k' : Nat) (s1 : (List TCached)) (day2 : Int) (i8 : Int) (c3b : TCache) (out7 : (List TCached)) (r : (List TCached)), k ≤ k' → erasureref30_Expire.p1 k s1 day2 i8 c3b out7 = some r → erasureref30_Expire.p1 k' s1 day2 i8 c3b out7 = some r := by
  intro k
  induction k with
  | zero => intro k' s1 day2 i8 c3b out7 r hk h; simp [erasureref30_Expire.p1] at h
  | succ k ih =>
    intro k' s1 day2 i8 c3b out7 r hk h
    obtain ⟨k', rfl⟩ : ∃ m, k' = m + 1 := ⟨k' - 1, by omega⟩
    replace hk := Nat.le_of_succ_le_succ hk
    rw [erasureref30_Expire.p1] at h ⊢
    rcases ite_or h with ⟨g_7, h⟩ | ⟨g_7, h⟩
    · refine itp g_7 ?_
      obtain ⟨g_8, h⟩ := ite_some h
      refine itp g_8 ?_
      rcases ite_or h with ⟨g_9, h⟩ | ⟨g_9, h⟩
      · refine itp g_9 ?_
        rcases ite_or h with ⟨g_10, h⟩ | ⟨g_10, h⟩
        · refine itp g_10 ?_
          obtain ⟨g_11, h⟩ := ite_some h
          refine itp g_11 ?_
          exact ih _ _ _ _ _ _ r hk h
        · refine itn g_10 ?_
          exact ih _ _ _ _ _ _ r hk h
      · refine itn g_9 ?_
        exact ih _ _ _ _ _ _ r hk h
    · refine itn g_7 ?_
      exact h
theorem erasureref30_Expire.mono   : ∀ (k k' : Nat) (c0 : TCache) (s1 : (List TCached)) (day2 : Int) (r : (List TCached)), k ≤ k' → erasureref30_Expire k c0 s1 day2 = some r → erasureref30_Expire k' c0 s1 day2 = some r := by
  intro k k' c0 s1 day2 r hk h
  unfold erasureref30_Expire at h ⊢
  obtain ⟨y_1, e_2, h⟩ := bind_or h
  refine bnd (erasureref30_Valid.mono _ _ _ _ hk e_2) ?_
  rcases ite_or h with ⟨g_3, h⟩ | ⟨g_3, h⟩
  · refine itp g_3 ?_
    exact h
  · refine itn g_3 ?_
    obtain ⟨y_4, e_5, h⟩ := bind_or h
    refine bnd (erasureref30_ranged.mono _ _ _ _ _ hk e_5) ?_
    rcases ite_or h with ⟨g_6, h⟩ | ⟨g_6, h⟩
    · refine itp g_6 ?_
      exact h
    · refine itn g_6 ?_
      exact erasureref30_Expire.p1.mono _ _ _ _ _ _ _ r hk h
theorem erasureref30_Expire.spec {k : Nat} {c0 : TCache} {s1 : (List TCached)} {day2 : Int} {r : (List TCached)} (h : erasureref30_Expire k c0 s1 day2 = some r) : Spec Try.prog 26 [.agg ((cCache c0).map .p), .p (eL 5 cCached dCached s1), .p (.int .i64 day2)] (.sref 0 46 5 (r).length) [(oL true 46 5 cCached dCached (r))] :=
  spec_of mix Try.func26 (body := bodyOf Try.f26) (by kernel_rfl) (by kernel_rfl) (erasureref30_Expire.run h)
end Go.Proofs.YtjhnpaenhdbhpabV
set_option linter.unusedVariables false
set_option linter.unusedSimpArgs false
set_option maxRecDepth 100000
namespace Go.Proofs.YtjhnpaenhdbhpabV
open Go Go.RowKit
noncomputable def erasureref30_at  (k : Nat) (row0 : (List TValue)) (column1 : Int) : Option TValue := if (decide (column1 < 0)) = true then (some (TValue.mk 0 0 (⟨#[]⟩ : ByteArray))) else (if (decide (column1 ≥ ((row0).length : Int))) = true then (some (TValue.mk 0 0 (⟨#[]⟩ : ByteArray))) else (if 0 ≤ column1 ∧ column1 < ((row0).length : Int) then ((erasureref01_Clean k (row0.getD column1.toNat dValue)).bind fun y_4 => (some y_4)) else none))
noncomputable def erasureref30_at.t : List Item := [.code (bodyOf Try.f40)]
noncomputable def erasureref30_at.s (row0 : (List TValue)) (column1 : Int) : St := ⟨frOf Try.f40.ntmps 0 [(0, .p (eL 3 cValue dValue row0)), (1, .p (.int .i64 column1))], []⟩
theorem erasureref30_at.run   {k : Nat} {row0 : (List TValue)} {column1 : Int} {r : TValue} (h : erasureref30_at k row0 column1 = some r) : RunC Try.prog Try.f40 erasureref30_at.t (erasureref30_at.s row0 column1) (.agg ((cValue r).map .p)) [] := by
  unfold erasureref30_at at h
  rcases ite_or h with ⟨g_1, h⟩ | ⟨g_1, h⟩
  · obtain rfl := Option.some.inj h
    exact RunC.out [.n 4, .r [(2, .dec true)], .n 3] (by kernel_rfl) (Obs.of (by kernel_rfl) g_1)
  · rcases ite_or h with ⟨g_2, h⟩ | ⟨g_2, h⟩
    · obtain rfl := Option.some.inj h
      exact RunC.out [.n 4, .r [(2, .dec false), (7, .dec true)], .n 3] (by kernel_rfl) (Obs.of (by kernel_rfl) (And.intro (nt g_1) g_2))
    · obtain ⟨g_3, h⟩ := ite_some h
      obtain ⟨y_4, e_5, h⟩ := bind_or h
      obtain rfl := Option.some.inj h
      exact RunC.out [.n 4, .r [(2, .dec false), (7, .dec false)], .n 3, .r [(4, .call (.agg ((cValue y_4).map .p)) [])]] (by kernel_rfl) (Obs.of (by kernel_rfl) (And.intro (nt g_1) (And.intro (nt g_2) (And.intro g_3 (erasureref01_Clean.spec e_5)))))
theorem erasureref30_at.mono   : ∀ (k k' : Nat) (row0 : (List TValue)) (column1 : Int) (r : TValue), k ≤ k' → erasureref30_at k row0 column1 = some r → erasureref30_at k' row0 column1 = some r := by
  intro k k' row0 column1 r hk h
  unfold erasureref30_at at h ⊢
  rcases ite_or h with ⟨g_1, h⟩ | ⟨g_1, h⟩
  · refine itp g_1 ?_
    exact h
  · refine itn g_1 ?_
    rcases ite_or h with ⟨g_2, h⟩ | ⟨g_2, h⟩
    · refine itp g_2 ?_
      exact h
    · refine itn g_2 ?_
      obtain ⟨g_3, h⟩ := ite_some h
      refine itp g_3 ?_
      obtain ⟨y_4, e_5, h⟩ := bind_or h
      refine bnd (erasureref01_Clean.mono _ _ _ _ hk e_5) ?_
      exact h
theorem erasureref30_at.spec {k : Nat} {row0 : (List TValue)} {column1 : Int} {r : TValue} (h : erasureref30_at k row0 column1 = some r) : Spec Try.prog 40 [.p (eL 3 cValue dValue row0), .p (.int .i64 column1)] (.agg ((cValue r).map .p)) [] :=
  spec_of mix Try.func40 (body := bodyOf Try.f40) (by kernel_rfl) (by kernel_rfl) (erasureref30_at.run h)
end Go.Proofs.YtjhnpaenhdbhpabV
set_option linter.unusedVariables false
set_option linter.unusedSimpArgs false
set_option maxRecDepth 100000
namespace Go.Proofs.YtjhnpaenhdbhpabV
open Go Go.RowKit
noncomputable def erasureref30_Select.p1  : Nat → (List TEntry) → Int → Int → TValue → (List TEntry) → Option (List TEntry)
  | 0, _, _, _, _, _ => none
  | k + 1, rows0, column1, i8, v5b, out7 => if (decide (i8 < ((rows0).length : Int))) = true then (if 0 ≤ i8 ∧ i8 < ((rows0).length : Int) then ((erasureref30_at k ((rows0.getD i8.toNat dEntry).f0) column1).bind fun y_3 => ((erasureref01_Clean k v5b).bind fun y_5 => (if ((y_3.f0 == y_5.f0) && ((y_3.f1 == y_5.f1) && ((y_3.f2.data.toList == y_5.f2.data.toList) && true))) = true then (if (out7).length + ([(rows0.getD i8.toNat dEntry)]).length ≤ maxLen ∧ ((out7).length + ([(rows0.getD i8.toNat dEntry)]).length) * 32 ≤ 140737488355328 then (erasureref30_Select.p1 k rows0 column1 (IntKind.i64.wrap (i8 + 1)) v5b (out7 ++ ([(rows0.getD i8.toNat dEntry)]))) else none) else (erasureref30_Select.p1 k rows0 column1 (IntKind.i64.wrap (i8 + 1)) v5b out7)))) else none) else (some out7)
noncomputable def erasureref30_Select  (k : Nat) (rows0 : (List TEntry)) (column1 : Int) (v2 : TValue) : Option (List TEntry) := erasureref30_Select.p1 k rows0 column1 0 v2 ([] : List TEntry)
noncomputable def erasureref30_Select.t : List Item := [.code (bodyOf Try.f15)]
noncomputable def erasureref30_Select.s (rows0 : (List TEntry)) (column1 : Int) (v2 : TValue) : St := ⟨frOf Try.f15.ntmps 0 [(0, .p (eL 2 cEntry dEntry rows0)), (1, .p (.int .i64 column1)), (2, .agg ((cValue v2).map .p))], []⟩
noncomputable def erasureref30_Select.p1.t : List Item := nav 9 [] erasureref30_Select.t
noncomputable def erasureref30_Select.p1.s (rows0 : (List TEntry)) (column1 : Int) (i8 : Int) (v5b : TValue) (out7 : (List TEntry)) : St := ⟨frOf Try.f15.ntmps 0 [(0, .p (eL 2 cEntry dEntry rows0)), (1, .p (.int .i64 column1)), (5, .ptr 0 0 0), (7, .sref 1 36 2 (out7).length), (8, .p (.int .i64 i8))], [.box ((cValue v5b).map .p), (oL true 36 2 cEntry dEntry out7)]⟩
theorem erasureref30_Select.p1.run   : ∀ (k : Nat) (rows0 : (List TEntry)) (column1 : Int) (i8 : Int) (v5b : TValue) (out7 : (List TEntry)) (r : (List TEntry)), erasureref30_Select.p1 k rows0 column1 i8 v5b out7 = some r → RunC Try.prog Try.f15 erasureref30_Select.p1.t (erasureref30_Select.p1.s rows0 column1 i8 v5b out7) (.sref 0 36 2 (r).length) [(oL true 36 2 cEntry dEntry (r))] := by
  intro k
  induction k with
  | zero => intro rows0 column1 i8 v5b out7 r h; simp [erasureref30_Select.p1] at h
  | succ k ih =>
    intro rows0 column1 i8 v5b out7 r h
    rw [erasureref30_Select.p1] at h
    rcases ite_or h with ⟨g_1, h⟩ | ⟨g_1, h⟩
    · obtain ⟨g_2, h⟩ := ite_some h
      obtain ⟨y_3, e_4, h⟩ := bind_or h
      obtain ⟨y_5, e_6, h⟩ := bind_or h
      rcases ite_or h with ⟨g_7, h⟩ | ⟨g_7, h⟩
      · obtain ⟨g_8, h⟩ := ite_some h
        exact RunC.go [.n 2, .r [(3, .dec true)], .n 5, .r [(6, .call (.agg ((cValue y_3).map .p)) []), (8, .call (.agg ((cValue y_5).map .p)) []), (9, .dec true)], .n 1, .r [(5, .obj (oL true 36 2 cEntry dEntry [(rows0.getD i8.toNat dEntry)])), (6, .obj (oL true 36 2 cEntry dEntry (out7 ++ ([(rows0.getD i8.toNat dEntry)]))))], .n 3, .k [0, 1, 5, 7, 8]] (by kernel_rfl) (Obs.of (by kernel_rfl) (And.intro g_1 (And.intro g_2 (And.intro (erasureref30_at.spec e_4) (And.intro (erasureref01_Clean.spec e_6) (And.intro g_7 (And.intro g_2 (And.intro (le_one 36 2 cEntry dEntry (rows0.getD i8.toNat dEntry)) (And.intro g_8 (le_app 36 2 cEntry dEntry out7 ([(rows0.getD i8.toNat dEntry)]))))))))))) (ih _ _ _ _ _ r h)
      · exact RunC.go [.n 2, .r [(3, .dec true)], .n 5, .r [(6, .call (.agg ((cValue y_3).map .p)) []), (8, .call (.agg ((cValue y_5).map .p)) []), (9, .dec false)], .n 5, .k [0, 1, 5, 7, 8]] (by kernel_rfl) (Obs.of (by kernel_rfl) (And.intro g_1 (And.intro g_2 (And.intro (erasureref30_at.spec e_4) (And.intro (erasureref01_Clean.spec e_6) (nt g_7)))))) (ih _ _ _ _ _ r h)
    · obtain rfl := Option.some.inj h
      exact RunC.out [.n 2, .r [(3, .dec false)], .n 4] (by kernel_rfl) (Obs.of (by kernel_rfl) (nt g_1))
theorem erasureref30_Select.run   {k : Nat} {rows0 : (List TEntry)} {column1 : Int} {v2 : TValue} {r : (List TEntry)} (h : erasureref30_Select k rows0 column1 v2 = some r) : RunC Try.prog Try.f15 erasureref30_Select.t (erasureref30_Select.s rows0 column1 v2) (.sref 0 36 2 (r).length) [(oL true 36 2 cEntry dEntry (r))] := by
  unfold erasureref30_Select at h
  exact RunC.go [.n 1, .r [(1, .obj (oL true 36 2 cEntry dEntry ([] : List TEntry)))], .n 1, .r [(0, .obj (oL true 36 2 cEntry dEntry ([] : List TEntry)))], .n 5, .k [0, 1, 5, 7, 8]] (by kernel_rfl) (Obs.of (by kernel_rfl) (And.intro (le_nil 36 2 cEntry dEntry) (le_nil 36 2 cEntry dEntry))) (erasureref30_Select.p1.run k _ _ _ _ _ r h)
theorem erasureref30_Select.p1.mono   : ∀ (k k' : Nat) (rows0 : (List TEntry)) (column1 : Int) (i8 : Int) (v5b : TValue) (out7 : (List TEntry)) (r : (List TEntry)), k ≤ k' → erasureref30_Select.p1 k rows0 column1 i8 v5b out7 = some r → erasureref30_Select.p1 k' rows0 column1 i8 v5b out7 = some r := by
  intro k
  induction k with
  | zero => intro k' rows0 column1 i8 v5b out7 r hk h; simp [erasureref30_Select.p1] at h
  | succ k ih =>
    intro k' rows0 column1 i8 v5b out7 r hk h
    obtain ⟨k', rfl⟩ : ∃ m, k' = m + 1 := ⟨k' - 1, by omega⟩
    replace hk := Nat.le_of_succ_le_succ hk
    rw [erasureref30_Select.p1] at h ⊢
    rcases ite_or h with ⟨g_1, h⟩ | ⟨g_1, h⟩
    · refine itp g_1 ?_
      obtain ⟨g_2, h⟩ := ite_some h
      refine itp g_2 ?_
      obtain ⟨y_3, e_4, h⟩ := bind_or h
      refine bnd (erasureref30_at.mono _ _ _ _ _ hk e_4) ?_
      obtain ⟨y_5, e_6, h⟩ := bind_or h
      refine bnd (erasureref01_Clean.mono _ _ _ _ hk e_6) ?_
      rcases ite_or h with ⟨g_7, h⟩ | ⟨g_7, h⟩
      · refine itp g_7 ?_
        obtain ⟨g_8, h⟩ := ite_some h
        refine itp g_8 ?_
        exact ih _ _ _ _ _ _ r hk h
      · refine itn g_7 ?_
        exact ih _ _ _ _ _ _ r hk h
    · refine itn g_1 ?_
      exact h
theorem erasureref30_Select.mono   : ∀ (k k' : Nat) (rows0 : (List TEntry)) (column1 : Int) (v2 : TValue) (r : (List TEntry)), k ≤ k' → erasureref30_Select k rows0 column1 v2 = some r → erasureref30_Select k' rows0 column1 v2 = some r := by
  intro k k' rows0 column1 v2 r hk h
  unfold erasureref30_Select at h ⊢
  exact erasureref30_Select.p1.mono _ _ _ _ _ _ _ r hk h
theorem erasureref30_Select.spec {k : Nat} {rows0 : (List TEntry)} {column1 : Int} {v2 : TValue} {r : (List TEntry)} (h : erasureref30_Select k rows0 column1 v2 = some r) : Spec Try.prog 15 [.p (eL 2 cEntry dEntry rows0), .p (.int .i64 column1), .agg ((cValue v2).map .p)] (.sref 0 36 2 (r).length) [(oL true 36 2 cEntry dEntry (r))] :=
  spec_of mix Try.func15 (body := bodyOf Try.f15) (by kernel_rfl) (by kernel_rfl) (erasureref30_Select.run h)
end Go.Proofs.YtjhnpaenhdbhpabV
set_option linter.unusedVariables false
set_option linter.unusedSimpArgs false
set_option maxRecDepth 100000
namespace Go.Proofs.YtjhnpaenhdbhpabV
open Go Go.RowKit
noncomputable def erasureref30_without.p1  : Nat → (List TCached) → Int → TValue → (List TCached) → Option (List TCached)
  | 0, _, _, _, _ => none
  | k + 1, s0, i6, v3b, out5 => if (decide (i6 < ((s0).length : Int))) = true then (if 0 ≤ i6 ∧ i6 < ((s0).length : Int) then (if (!(((s0.getD i6.toNat dCached).f0.f0 == v3b.f0) && (((s0.getD i6.toNat dCached).f0.f1 == v3b.f1) && ((((s0.getD i6.toNat dCached).f0.f2).data.toList == v3b.f2.data.toList) && true)))) = true then (if (out5).length + ([(s0.getD i6.toNat dCached)]).length ≤ maxLen ∧ ((out5).length + ([(s0.getD i6.toNat dCached)]).length) * 64 ≤ 140737488355328 then (erasureref30_without.p1 k s0 (IntKind.i64.wrap (i6 + 1)) v3b (out5 ++ ([(s0.getD i6.toNat dCached)]))) else none) else (erasureref30_without.p1 k s0 (IntKind.i64.wrap (i6 + 1)) v3b out5)) else none) else (some out5)
noncomputable def erasureref30_without  (k : Nat) (s0 : (List TCached)) (v1 : TValue) : Option (List TCached) := erasureref30_without.p1 k s0 0 v1 ([] : List TCached)
noncomputable def erasureref30_without.t : List Item := [.code (bodyOf Try.f46)]
noncomputable def erasureref30_without.s (s0 : (List TCached)) (v1 : TValue) : St := ⟨frOf Try.f46.ntmps 0 [(0, .p (eL 5 cCached dCached s0)), (1, .agg ((cValue v1).map .p))], []⟩
noncomputable def erasureref30_without.p1.t : List Item := nav 9 [] erasureref30_without.t
noncomputable def erasureref30_without.p1.s (s0 : (List TCached)) (i6 : Int) (v3b : TValue) (out5 : (List TCached)) : St := ⟨frOf Try.f46.ntmps 0 [(0, .p (eL 5 cCached dCached s0)), (3, .ptr 0 0 0), (5, .sref 1 46 5 (out5).length), (6, .p (.int .i64 i6))], [.box ((cValue v3b).map .p), (oL true 46 5 cCached dCached out5)]⟩
theorem erasureref30_without.p1.run   : ∀ (k : Nat) (s0 : (List TCached)) (i6 : Int) (v3b : TValue) (out5 : (List TCached)) (r : (List TCached)), erasureref30_without.p1 k s0 i6 v3b out5 = some r → RunC Try.prog Try.f46 erasureref30_without.p1.t (erasureref30_without.p1.s s0 i6 v3b out5) (.sref 0 46 5 (r).length) [(oL true 46 5 cCached dCached (r))] := by
  intro k
  induction k with
  | zero => intro s0 i6 v3b out5 r h; simp [erasureref30_without.p1] at h
  | succ k ih =>
    intro s0 i6 v3b out5 r h
    rw [erasureref30_without.p1] at h
    rcases ite_or h with ⟨g_1, h⟩ | ⟨g_1, h⟩
    · obtain ⟨g_2, h⟩ := ite_some h
      rcases ite_or h with ⟨g_3, h⟩ | ⟨g_3, h⟩
      · obtain ⟨g_4, h⟩ := ite_some h
        exact RunC.go [.n 2, .r [(3, .dec true)], .n 5, .r [(6, .dec true)], .n 1, .r [(5, .obj (oL true 46 5 cCached dCached [(s0.getD i6.toNat dCached)])), (6, .obj (oL true 46 5 cCached dCached (out5 ++ ([(s0.getD i6.toNat dCached)]))))], .n 3, .k [0, 3, 5, 6]] (by kernel_rfl) (Obs.of (by kernel_rfl) (And.intro g_1 (And.intro g_2 (And.intro g_3 (And.intro g_2 (And.intro (le_one 46 5 cCached dCached (s0.getD i6.toNat dCached)) (And.intro g_4 (le_app 46 5 cCached dCached out5 ([(s0.getD i6.toNat dCached)]))))))))) (ih _ _ _ _ r h)
      · exact RunC.go [.n 2, .r [(3, .dec true)], .n 5, .r [(6, .dec false)], .n 5, .k [0, 3, 5, 6]] (by kernel_rfl) (Obs.of (by kernel_rfl) (And.intro g_1 (And.intro g_2 (nt g_3)))) (ih _ _ _ _ r h)
    · obtain rfl := Option.some.inj h
      exact RunC.out [.n 2, .r [(3, .dec false)], .n 4] (by kernel_rfl) (Obs.of (by kernel_rfl) (nt g_1))
theorem erasureref30_without.run   {k : Nat} {s0 : (List TCached)} {v1 : TValue} {r : (List TCached)} (h : erasureref30_without k s0 v1 = some r) : RunC Try.prog Try.f46 erasureref30_without.t (erasureref30_without.s s0 v1) (.sref 0 46 5 (r).length) [(oL true 46 5 cCached dCached (r))] := by
  unfold erasureref30_without at h
  exact RunC.go [.n 1, .r [(1, .obj (oL true 46 5 cCached dCached ([] : List TCached)))], .n 1, .r [(0, .obj (oL true 46 5 cCached dCached ([] : List TCached)))], .n 5, .k [0, 3, 5, 6]] (by kernel_rfl) (Obs.of (by kernel_rfl) (And.intro (le_nil 46 5 cCached dCached) (le_nil 46 5 cCached dCached))) (erasureref30_without.p1.run k _ _ _ _ r h)
theorem erasureref30_without.p1.mono   : ∀ (k k' : Nat) (s0 : (List TCached)) (i6 : Int) (v3b : TValue) (out5 : (List TCached)) (r : (List TCached)), k ≤ k' → erasureref30_without.p1 k s0 i6 v3b out5 = some r → erasureref30_without.p1 k' s0 i6 v3b out5 = some r := by
  intro k
  induction k with
  | zero => intro k' s0 i6 v3b out5 r hk h; simp [erasureref30_without.p1] at h
  | succ k ih =>
    intro k' s0 i6 v3b out5 r hk h
    obtain ⟨k', rfl⟩ : ∃ m, k' = m + 1 := ⟨k' - 1, by omega⟩
    replace hk := Nat.le_of_succ_le_succ hk
    rw [erasureref30_without.p1] at h ⊢
    rcases ite_or h with ⟨g_1, h⟩ | ⟨g_1, h⟩
    · refine itp g_1 ?_
      obtain ⟨g_2, h⟩ := ite_some h
      refine itp g_2 ?_
      rcases ite_or h with ⟨g_3, h⟩ | ⟨g_3, h⟩
      · refine itp g_3 ?_
        obtain ⟨g_4, h⟩ := ite_some h
        refine itp g_4 ?_
        exact ih _ _ _ _ _ r hk h
      · refine itn g_3 ?_
        exact ih _ _ _ _ _ r hk h
    · refine itn g_1 ?_
      exact h
theorem erasureref30_without.mono   : ∀ (k k' : Nat) (s0 : (List TCached)) (v1 : TValue) (r : (List TCached)), k ≤ k' → erasureref30_without k s0 v1 = some r → erasureref30_without k' s0 v1 = some r := by
  intro k k' s0 v1 r hk h
  unfold erasureref30_without at h ⊢
  exact erasureref30_without.p1.mono _ _ _ _ _ _ r hk h
theorem erasureref30_without.spec {k : Nat} {s0 : (List TCached)} {v1 : TValue} {r : (List TCached)} (h : erasureref30_without k s0 v1 = some r) : Spec Try.prog 46 [.p (eL 5 cCached dCached s0), .agg ((cValue v1).map .p)] (.sref 0 46 5 (r).length) [(oL true 46 5 cCached dCached (r))] :=
  spec_of mix Try.func46 (body := bodyOf Try.f46) (by kernel_rfl) (by kernel_rfl) (erasureref30_without.run h)
end Go.Proofs.YtjhnpaenhdbhpabV
set_option linter.unusedVariables false
set_option linter.unusedSimpArgs false
set_option maxRecDepth 100000
namespace Go.Proofs.YtjhnpaenhdbhpabV
open Go Go.RowKit
noncomputable def erasureref30_Lookup.p3  : Nat → (List TEntry) → Int → TCache → TValue → (List TCached) → Option ((List TCached) × (List TEntry) × Int)
  | 0, _, _, _, _, _ => none
  | k + 1, A2, v18, a5b, v8b, v17 => if (decide (v18 > 0)) = true then (if 0 ≤ v18 ∧ v18 < ((v17).length : Int) then (if 0 ≤ (IntKind.i64.wrap (v18 - 1)) ∧ (IntKind.i64.wrap (v18 - 1)) < ((v17).length : Int) then ((erasureref01_Compare k ((v17.getD v18.toNat dCached).f0) ((v17.getD (IntKind.i64.wrap (v18 - 1)).toNat dCached).f0)).bind fun y_32 => (if (decide (y_32 < 0)) = true then (erasureref30_Lookup.p3 k A2 (IntKind.i64.wrap (v18 - 1)) a5b v8b ((v17.set (IntKind.i64.wrap (v18 - 1)).toNat (v17.getD v18.toNat dCached)).set v18.toNat (v17.getD (IntKind.i64.wrap (v18 - 1)).toNat dCached))) else ((erasureref30_Select k A2 a5b.f2 v8b).bind fun y_35 => (some (v17, y_35, 0))))) else none) else none) else ((erasureref30_Select k A2 a5b.f2 v8b).bind fun y_37 => (some (v17, y_37, 0)))
noncomputable def erasureref30_Lookup.p2  : Nat → (List TEntry) → Int → Int → Int → TCache → TValue → (List TCached) → Option ((List TCached) × (List TEntry) × Int)
  | 0, _, _, _, _, _, _, _ => none
  | k + 1, A2, r4, v15, v16, a5b, v8b, v13 => if (decide (v16 < ((v13).length : Int))) = true then (if 0 ≤ v16 ∧ v16 < ((v13).length : Int) then (if 0 ≤ v15 ∧ v15 < ((v13).length : Int) then (if (decide ((v13.getD v16.toNat dCached).f2 < (v13.getD v15.toNat dCached).f2)) = true then (erasureref30_Lookup.p2 k A2 r4 v16 (IntKind.i64.wrap (v16 + 1)) a5b v8b v13) else (erasureref30_Lookup.p2 k A2 r4 v15 (IntKind.i64.wrap (v16 + 1)) a5b v8b v13)) else none) else none) else (if 0 ≤ v15 ∧ v15 < ((v13).length : Int) then ((erasureref30_without k v13 ((v13.getD v15.toNat dCached).f0)).bind fun y_23 => (if (([] : List TCached)).length + (y_23).length ≤ maxLen ∧ ((([] : List TCached)).length + (y_23).length) * 64 ≤ 140737488355328 then ((erasureref30_Select k A2 a5b.f2 v8b).bind fun y_26 => (if ((([] : List TCached) ++ y_23)).length + ([(TCached.mk v8b y_26 r4)]).length ≤ maxLen ∧ (((([] : List TCached) ++ y_23)).length + ([(TCached.mk v8b y_26 r4)]).length) * 64 ≤ 140737488355328 then (erasureref30_Lookup.p3 k A2 (IntKind.i64.wrap (((((([] : List TCached) ++ y_23) ++ ([(TCached.mk v8b y_26 r4)]))).length : Int) - 1)) a5b v8b ((([] : List TCached) ++ y_23) ++ ([(TCached.mk v8b y_26 r4)]))) else none)) else none)) else none)
noncomputable def erasureref30_Lookup.p1  : Nat → (List TEntry) → Int → Int → TCache → TValue → (List TCached) → Option ((List TCached) × (List TEntry) × Int)
  | 0, _, _, _, _, _, _ => none
  | k + 1, A2, r4, v14, a5b, v8b, v13 => if (decide (v14 < ((v13).length : Int))) = true then (if 0 ≤ v14 ∧ v14 < ((v13).length : Int) then (if (((v13.getD v14.toNat dCached).f0.f0 == v8b.f0) && (((v13.getD v14.toNat dCached).f0.f1 == v8b.f1) && ((((v13.getD v14.toNat dCached).f0.f2).data.toList == v8b.f2.data.toList) && true))) = true then (some (v13, (v13.getD v14.toNat dCached).f1, 0)) else (erasureref30_Lookup.p1 k A2 r4 (IntKind.i64.wrap (v14 + 1)) a5b v8b v13)) else none) else (if (decide (((v13).length : Int) ≥ 16)) = true then (erasureref30_Lookup.p2 k A2 r4 0 1 a5b v8b v13) else (if (([] : List TCached)).length + (v13).length ≤ maxLen ∧ ((([] : List TCached)).length + (v13).length) * 64 ≤ 140737488355328 then ((erasureref30_Select k A2 a5b.f2 v8b).bind fun y_40 => (if ((([] : List TCached) ++ v13)).length + ([(TCached.mk v8b y_40 r4)]).length ≤ maxLen ∧ (((([] : List TCached) ++ v13)).length + ([(TCached.mk v8b y_40 r4)]).length) * 64 ≤ 140737488355328 then (erasureref30_Lookup.p3 k A2 (IntKind.i64.wrap (((((([] : List TCached) ++ v13) ++ ([(TCached.mk v8b y_40 r4)]))).length : Int) - 1)) a5b v8b ((([] : List TCached) ++ v13) ++ ([(TCached.mk v8b y_40 r4)]))) else none)) else none))
noncomputable def erasureref30_Lookup  (k : Nat) (t0 : TCache) (o1 : (List TCached)) (A2 : (List TEntry)) (r3 : TValue) (r4 : Int) : Option ((List TCached) × (List TEntry) × Int) := (erasureref30_Valid k o1).bind fun y_1 => (if (!y_1) = true then (some (([] : List TCached), ([] : List TEntry), 1)) else ((erasureref06_Valid k A2).bind fun y_4 => (if (!y_4) = true then (some (([] : List TCached), ([] : List TEntry), 1)) else ((erasureref30_ranged k t0 r4).bind fun y_7 => (if (!y_7) = true then (some (([] : List TCached), ([] : List TEntry), 1)) else ((erasureref01_Clean k r3).bind fun y_10 => ((erasureref30_Expire k t0 o1 r4).bind fun y_12 => (erasureref30_Lookup.p1 k A2 r4 0 t0 y_10 y_12))))))))
noncomputable def erasureref30_Lookup.t : List Item := [.code (bodyOf Try.f19)]
noncomputable def erasureref30_Lookup.s (t0 : TCache) (o1 : (List TCached)) (A2 : (List TEntry)) (r3 : TValue) (r4 : Int) : St := ⟨frOf Try.f19.ntmps 0 [(0, .agg ((cCache t0).map .p)), (1, .p (eL 5 cCached dCached o1)), (2, .p (eL 2 cEntry dEntry A2)), (3, .agg ((cValue r3).map .p)), (4, .p (.int .i64 r4))], []⟩
noncomputable def erasureref30_Lookup.p1.t : List Item := nav 16 [false] erasureref30_Lookup.t
noncomputable def erasureref30_Lookup.p1.s (A2 : (List TEntry)) (r4 : Int) (v14 : Int) (a5b : TCache) (v8b : TValue) (v13 : (List TCached)) : St := ⟨frOf Try.f19.ntmps 0 [(2, .p (eL 2 cEntry dEntry A2)), (4, .p (.int .i64 r4)), (5, .ptr 0 0 0), (8, .ptr 1 0 0), (13, .sref 2 46 5 (v13).length), (14, .p (.int .i64 v14))], [.box ((cCache a5b).map .p), .box ((cValue v8b).map .p), (oL true 46 5 cCached dCached v13)]⟩
noncomputable def erasureref30_Lookup.p2.t : List Item := nav 16 [false, true] erasureref30_Lookup.p1.t
noncomputable def erasureref30_Lookup.p2.s (A2 : (List TEntry)) (r4 : Int) (v15 : Int) (v16 : Int) (a5b : TCache) (v8b : TValue) (v13 : (List TCached)) : St := ⟨frOf Try.f19.ntmps 0 [(2, .p (eL 2 cEntry dEntry A2)), (4, .p (.int .i64 r4)), (5, .ptr 0 0 0), (8, .ptr 1 0 0), (13, .sref 2 46 5 (v13).length), (15, .p (.int .i64 v15)), (16, .p (.int .i64 v16))], [.box ((cCache a5b).map .p), .box ((cValue v8b).map .p), (oL true 46 5 cCached dCached v13)]⟩
noncomputable def erasureref30_Lookup.p3.t : List Item := nav 13 [false] erasureref30_Lookup.p2.t
noncomputable def erasureref30_Lookup.p3.s (A2 : (List TEntry)) (v18 : Int) (a5b : TCache) (v8b : TValue) (v17 : (List TCached)) : St := ⟨frOf Try.f19.ntmps 0 [(2, .p (eL 2 cEntry dEntry A2)), (5, .ptr 0 0 0), (8, .ptr 1 0 0), (17, .sref 2 46 5 (v17).length), (18, .p (.int .i64 v18))], [.box ((cCache a5b).map .p), .box ((cValue v8b).map .p), (oL true 46 5 cCached dCached v17)]⟩
theorem erasureref30_Lookup.p3.run   : ∀ (k : Nat) (A2 : (List TEntry)) (v18 : Int) (a5b : TCache) (v8b : TValue) (v17 : (List TCached)) (r : ((List TCached) × (List TEntry) × Int)), erasureref30_Lookup.p3 k A2 v18 a5b v8b v17 = some r → RunC Try.prog Try.f19 erasureref30_Lookup.p3.t (erasureref30_Lookup.p3.s A2 v18 a5b v8b v17) (.tup [.sref 0 46 5 (r.1).length, .p ((eL 2 cEntry dEntry r.2.1)), .p (.int .i64 r.2.2)]) [(oL true 46 5 cCached dCached (r.1))] := by
  intro k
  induction k with
  | zero => intro A2 v18 a5b v8b v17 r h; simp [erasureref30_Lookup.p3] at h
  | succ k ih =>
    intro A2 v18 a5b v8b v17 r h
    rw [erasureref30_Lookup.p3] at h
    rcases ite_or h with ⟨g_29, h⟩ | ⟨g_29, h⟩
    · obtain ⟨g_30, h⟩ := ite_some h
      obtain ⟨g_31, h⟩ := ite_some h
      obtain ⟨y_32, e_33, h⟩ := bind_or h
      rcases ite_or h with ⟨g_34, h⟩ | ⟨g_34, h⟩
      · exact RunC.go [.n 2, .r [(2, .dec true), (14, .call (.p (.int .i64 y_32)) []), (16, .dec true)], .n 4, .r [(15, .obj (oL true 46 5 cCached dCached (v17.set (IntKind.i64.wrap (v18 - 1)).toNat (v17.getD v18.toNat dCached)))), (17, .obj (oL true 46 5 cCached dCached ((v17.set (IntKind.i64.wrap (v18 - 1)).toNat (v17.getD v18.toNat dCached)).set v18.toNat (v17.getD (IntKind.i64.wrap (v18 - 1)).toNat dCached))))], .n 3, .k [2, 5, 8, 17, 18]] (by kernel_rfl) (Obs.of (by kernel_rfl) (And.intro g_29 (And.intro g_30 (And.intro g_31 (And.intro (erasureref01_Compare.spec e_33) (And.intro g_34 (And.intro g_30 (And.intro g_31 (And.intro g_31 (And.intro (le_set 46 5 cCached dCached v17 (v17.getD v18.toNat dCached) (IntKind.i64.wrap (v18 - 1)).toNat rfl) (And.intro g_30 (le_set 46 5 cCached dCached (v17.set (IntKind.i64.wrap (v18 - 1)).toNat (v17.getD v18.toNat dCached)) (v17.getD (IntKind.i64.wrap (v18 - 1)).toNat dCached) v18.toNat rfl)))))))))))) (ih _ _ _ _ _ r h)
      · obtain ⟨y_35, e_36, h⟩ := bind_or h
        obtain rfl := Option.some.inj h
        exact RunC.out [.n 2, .r [(2, .dec true), (14, .call (.p (.int .i64 y_32)) []), (16, .dec false)], .n 3, .r [(5, .call (.sref 0 36 2 (y_35).length) [(oL true 36 2 cEntry dEntry y_35)])], .f 11] (by kernel_rfl) (Obs.of (by kernel_rfl) (And.intro g_29 (And.intro g_30 (And.intro g_31 (And.intro (erasureref01_Compare.spec e_33) (And.intro (nt g_34) (erasureref30_Select.spec e_36)))))))
    · obtain ⟨y_37, e_38, h⟩ := bind_or h
      obtain rfl := Option.some.inj h
      exact RunC.out [.n 2, .r [(2, .dec false)], .n 3, .r [(5, .call (.sref 0 36 2 (y_37).length) [(oL true 36 2 cEntry dEntry y_37)])], .f 11] (by kernel_rfl) (Obs.of (by kernel_rfl) (And.intro (nt g_29) (erasureref30_Select.spec e_38)))
theorem erasureref30_Lookup.p2.run   : ∀ (k : Nat) (A2 : (List TEntry)) (r4 : Int) (v15 : Int) (v16 : Int) (a5b : TCache) (v8b : TValue) (v13 : (List TCached)) (r : ((List TCached) × (List TEntry) × Int)), erasureref30_Lookup.p2 k A2 r4 v15 v16 a5b v8b v13 = some r → RunC Try.prog Try.f19 erasureref30_Lookup.p2.t (erasureref30_Lookup.p2.s A2 r4 v15 v16 a5b v8b v13) (.tup [.sref 0 46 5 (r.1).length, .p ((eL 2 cEntry dEntry r.2.1)), .p (.int .i64 r.2.2)]) [(oL true 46 5 cCached dCached (r.1))] := by
  intro k
  induction k with
  | zero => intro A2 r4 v15 v16 a5b v8b v13 r h; simp [erasureref30_Lookup.p2] at h
  | succ k ih =>
    intro A2 r4 v15 v16 a5b v8b v13 r h
    rw [erasureref30_Lookup.p2] at h
    rcases ite_or h with ⟨g_18, h⟩ | ⟨g_18, h⟩
    · obtain ⟨g_19, h⟩ := ite_some h
      obtain ⟨g_20, h⟩ := ite_some h
      rcases ite_or h with ⟨g_21, h⟩ | ⟨g_21, h⟩
      · exact RunC.go [.n 2, .r [(3, .dec true)], .n 5, .r [(10, .dec true)], .n 5, .k [2, 4, 5, 8, 13, 15, 16]] (by kernel_rfl) (Obs.of (by kernel_rfl) (And.intro g_18 (And.intro g_19 (And.intro g_20 g_21)))) (ih _ _ _ _ _ _ _ r h)
      · exact RunC.go [.n 2, .r [(3, .dec true)], .n 5, .r [(10, .dec false)], .n 5, .k [2, 4, 5, 8, 13, 15, 16]] (by kernel_rfl) (Obs.of (by kernel_rfl) (And.intro g_18 (And.intro g_19 (And.intro g_20 (nt g_21))))) (ih _ _ _ _ _ _ _ r h)
    · obtain ⟨g_22, h⟩ := ite_some h
      obtain ⟨y_23, e_24, h⟩ := bind_or h
      obtain ⟨g_25, h⟩ := ite_some h
      obtain ⟨y_26, e_27, h⟩ := bind_or h
      obtain ⟨g_28, h⟩ := ite_some h
      exact RunC.go [.n 2, .r [(3, .dec false)], .n 2, .r [(6, .call (.sref 0 46 5 (y_23).length) [(oL true 46 5 cCached dCached y_23)])], .n 1, .r [(0, .obj (oL true 46 5 cCached dCached ([] : List TCached))), (2, .obj (oL true 46 5 cCached dCached (([] : List TCached) ++ y_23))), (8, .call (.sref 0 36 2 (y_26).length) [(oL true 36 2 cEntry dEntry y_26)]), (11, .obj (oL true 46 5 cCached dCached [(TCached.mk v8b y_26 r4)])), (12, .obj (oL true 46 5 cCached dCached ((([] : List TCached) ++ y_23) ++ ([(TCached.mk v8b y_26 r4)]))))], .n 5, .k [2, 5, 8, 17, 18]] (by kernel_rfl) (Obs.of (by kernel_rfl) (And.intro (nt g_18) (And.intro g_22 (And.intro (erasureref30_without.spec e_24) (And.intro (le_build0 46 5 cCached dCached) (And.intro (And.intro g_25 (le_app 46 5 cCached dCached ([] : List TCached) y_23)) (And.intro (erasureref30_Select.spec e_27) (And.intro (le_one 46 5 cCached dCached (TCached.mk v8b y_26 r4)) (And.intro g_28 (le_app 46 5 cCached dCached (([] : List TCached) ++ y_23) ([(TCached.mk v8b y_26 r4)]))))))))))) (erasureref30_Lookup.p3.run k _ _ _ _ _ r h)
theorem erasureref30_Lookup.p1.run   : ∀ (k : Nat) (A2 : (List TEntry)) (r4 : Int) (v14 : Int) (a5b : TCache) (v8b : TValue) (v13 : (List TCached)) (r : ((List TCached) × (List TEntry) × Int)), erasureref30_Lookup.p1 k A2 r4 v14 a5b v8b v13 = some r → RunC Try.prog Try.f19 erasureref30_Lookup.p1.t (erasureref30_Lookup.p1.s A2 r4 v14 a5b v8b v13) (.tup [.sref 0 46 5 (r.1).length, .p ((eL 2 cEntry dEntry r.2.1)), .p (.int .i64 r.2.2)]) [(oL true 46 5 cCached dCached (r.1))] := by
  intro k
  induction k with
  | zero => intro A2 r4 v14 a5b v8b v13 r h; simp [erasureref30_Lookup.p1] at h
  | succ k ih =>
    intro A2 r4 v14 a5b v8b v13 r h
    rw [erasureref30_Lookup.p1] at h
    rcases ite_or h with ⟨g_14, h⟩ | ⟨g_14, h⟩
    · obtain ⟨g_15, h⟩ := ite_some h
      rcases ite_or h with ⟨g_16, h⟩ | ⟨g_16, h⟩
      · obtain rfl := Option.some.inj h
        exact RunC.out [.n 2, .r [(3, .dec true)], .n 5, .r [(6, .dec true)], .n 3] (by kernel_rfl) (Obs.of (by kernel_rfl) (And.intro g_14 (And.intro g_15 (And.intro g_16 g_15))))
      · exact RunC.go [.n 2, .r [(3, .dec true)], .n 5, .r [(6, .dec false)], .n 5, .k [2, 4, 5, 8, 13, 14]] (by kernel_rfl) (Obs.of (by kernel_rfl) (And.intro g_14 (And.intro g_15 (nt g_16)))) (ih _ _ _ _ _ _ r h)
    · rcases ite_or h with ⟨g_17, h⟩ | ⟨g_17, h⟩
      · exact RunC.go [.n 2, .r [(3, .dec false)], .n 4, .r [(2, .dec true)], .n 8, .k [2, 4, 5, 8, 13, 15, 16]] (by kernel_rfl) (Obs.of (by kernel_rfl) (And.intro (nt g_14) g_17)) (erasureref30_Lookup.p2.run k _ _ _ _ _ _ _ r h)
      · obtain ⟨g_39, h⟩ := ite_some h
        obtain ⟨y_40, e_41, h⟩ := bind_or h
        obtain ⟨g_42, h⟩ := ite_some h
        exact RunC.go [.n 2, .r [(3, .dec false)], .n 4, .r [(2, .dec false)], .n 3, .r [(0, .obj (oL true 46 5 cCached dCached ([] : List TCached))), (2, .obj (oL true 46 5 cCached dCached (([] : List TCached) ++ v13))), (8, .call (.sref 0 36 2 (y_40).length) [(oL true 36 2 cEntry dEntry y_40)]), (11, .obj (oL true 46 5 cCached dCached [(TCached.mk v8b y_40 r4)])), (12, .obj (oL true 46 5 cCached dCached ((([] : List TCached) ++ v13) ++ ([(TCached.mk v8b y_40 r4)]))))], .n 5, .k [2, 5, 8, 17, 18]] (by kernel_rfl) (Obs.of (by kernel_rfl) (And.intro (nt g_14) (And.intro (nt g_17) (And.intro (le_build0 46 5 cCached dCached) (And.intro (And.intro g_39 (le_app 46 5 cCached dCached ([] : List TCached) v13)) (And.intro (erasureref30_Select.spec e_41) (And.intro (le_one 46 5 cCached dCached (TCached.mk v8b y_40 r4)) (And.intro g_42 (le_app 46 5 cCached dCached (([] : List TCached) ++ v13) ([(TCached.mk v8b y_40 r4)])))))))))) (erasureref30_Lookup.p3.run k _ _ _ _ _ r h)
theorem erasureref30_Lookup.run   {k : Nat} {t0 : TCache} {o1 : (List TCached)} {A2 : (List TEntry)} {r3 : TValue} {r4 : Int} {r : ((List TCached) × (List TEntry) × Int)} (h : erasureref30_Lookup k t0 o1 A2 r3 r4 = some r) : RunC Try.prog Try.f19 erasureref30_Lookup.t (erasureref30_Lookup.s t0 o1 A2 r3 r4) (.tup [.sref 0 46 5 (r.1).length, .p ((eL 2 cEntry dEntry r.2.1)), .p (.int .i64 r.2.2)]) [(oL true 46 5 cCached dCached (r.1))] := by
  unfold erasureref30_Lookup at h
  obtain ⟨y_1, e_2, h⟩ := bind_or h
  rcases ite_or h with ⟨g_3, h⟩ | ⟨g_3, h⟩
  · obtain rfl := Option.some.inj h
    exact RunC.out [.n 1, .r [(2, .obj (oL true 46 5 cCached dCached ([] : List TCached))), (3, .obj (oL true 36 2 cEntry dEntry ([] : List TEntry)))], .n 2, .r [(1, .call (.p (.bool y_1)) []), (3, .dec true)], .n 2, .r [(0, .obj (oL true 46 5 cCached dCached ([] : List TCached))), (1, .obj (oL true 36 2 cEntry dEntry ([] : List TEntry)))], .f 11] (by kernel_rfl) (Obs.of (by kernel_rfl) (And.intro (le_nil 46 5 cCached dCached) (And.intro (le_nil 36 2 cEntry dEntry) (And.intro (erasureref30_Valid.spec e_2) (And.intro g_3 (And.intro (le_nil 46 5 cCached dCached) (le_nil 36 2 cEntry dEntry)))))))
  · obtain ⟨y_4, e_5, h⟩ := bind_or h
    rcases ite_or h with ⟨g_6, h⟩ | ⟨g_6, h⟩
    · obtain rfl := Option.some.inj h
      exact RunC.out [.n 1, .r [(2, .obj (oL true 46 5 cCached dCached ([] : List TCached))), (3, .obj (oL true 36 2 cEntry dEntry ([] : List TEntry)))], .n 2, .r [(1, .call (.p (.bool y_1)) []), (3, .dec false), (5, .call (.p (.bool y_4)) []), (8, .dec true)], .n 2, .r [(0, .obj (oL true 46 5 cCached dCached ([] : List TCached))), (1, .obj (oL true 36 2 cEntry dEntry ([] : List TEntry)))], .f 11] (by kernel_rfl) (Obs.of (by kernel_rfl) (And.intro (le_nil 46 5 cCached dCached) (And.intro (le_nil 36 2 cEntry dEntry) (And.intro (erasureref30_Valid.spec e_2) (And.intro (nt g_3) (And.intro (erasureref06_Valid.spec e_5) (And.intro g_6 (And.intro (le_nil 46 5 cCached dCached) (le_nil 36 2 cEntry dEntry)))))))))
    · obtain ⟨y_7, e_8, h⟩ := bind_or h
      rcases ite_or h with ⟨g_9, h⟩ | ⟨g_9, h⟩
      · obtain rfl := Option.some.inj h
        exact RunC.out [.n 1, .r [(2, .obj (oL true 46 5 cCached dCached ([] : List TCached))), (3, .obj (oL true 36 2 cEntry dEntry ([] : List TEntry)))], .n 2, .r [(1, .call (.p (.bool y_1)) []), (3, .dec false), (5, .call (.p (.bool y_4)) []), (8, .dec false), (11, .call (.p (.bool y_7)) []), (13, .dec true)], .n 2, .r [(0, .obj (oL true 46 5 cCached dCached ([] : List TCached))), (1, .obj (oL true 36 2 cEntry dEntry ([] : List TEntry)))], .f 11] (by kernel_rfl) (Obs.of (by kernel_rfl) (And.intro (le_nil 46 5 cCached dCached) (And.intro (le_nil 36 2 cEntry dEntry) (And.intro (erasureref30_Valid.spec e_2) (And.intro (nt g_3) (And.intro (erasureref06_Valid.spec e_5) (And.intro (nt g_6) (And.intro (erasureref30_ranged.spec e_8) (And.intro g_9 (And.intro (le_nil 46 5 cCached dCached) (le_nil 36 2 cEntry dEntry)))))))))))
      · obtain ⟨y_10, e_11, h⟩ := bind_or h
        obtain ⟨y_12, e_13, h⟩ := bind_or h
        exact RunC.go [.n 1, .r [(2, .obj (oL true 46 5 cCached dCached ([] : List TCached))), (3, .obj (oL true 36 2 cEntry dEntry ([] : List TEntry)))], .n 2, .r [(1, .call (.p (.bool y_1)) []), (3, .dec false), (5, .call (.p (.bool y_4)) []), (8, .dec false), (11, .call (.p (.bool y_7)) []), (13, .dec false)], .n 3, .r [(1, .call (.agg ((cValue y_10).map .p)) [])], .n 1, .r [(3, .call (.sref 0 46 5 (y_12).length) [(oL true 46 5 cCached dCached y_12)])], .n 5, .k [2, 4, 5, 8, 13, 14]] (by kernel_rfl) (Obs.of (by kernel_rfl) (And.intro (le_nil 46 5 cCached dCached) (And.intro (le_nil 36 2 cEntry dEntry) (And.intro (erasureref30_Valid.spec e_2) (And.intro (nt g_3) (And.intro (erasureref06_Valid.spec e_5) (And.intro (nt g_6) (And.intro (erasureref30_ranged.spec e_8) (And.intro (nt g_9) (And.intro (erasureref01_Clean.spec e_11) (erasureref30_Expire.spec e_13))))))))))) (erasureref30_Lookup.p1.run k _ _ _ _ _ _ r h)
theorem erasureref30_Lookup.p3.mono   : ∀ (k k' : Nat) (A2 : (List TEntry)) (v18 : Int) (a5b : TCache) (v8b : TValue) (v17 : (List TCached)) (r : ((List TCached) × (List TEntry) × Int)), k ≤ k' → erasureref30_Lookup.p3 k A2 v18 a5b v8b v17 = some r → erasureref30_Lookup.p3 k' A2 v18 a5b v8b v17 = some r := by
  intro k
  induction k with
  | zero => intro k' A2 v18 a5b v8b v17 r hk h; simp [erasureref30_Lookup.p3] at h
  | succ k ih =>
    intro k' A2 v18 a5b v8b v17 r hk h
    obtain ⟨k', rfl⟩ : ∃ m, k' = m + 1 := ⟨k' - 1, by omega⟩
    replace hk := Nat.le_of_succ_le_succ hk
    rw [erasureref30_Lookup.p3] at h ⊢
    rcases ite_or h with ⟨g_29, h⟩ | ⟨g_29, h⟩
    · refine itp g_29 ?_
      obtain ⟨g_30, h⟩ := ite_some h
      refine itp g_30 ?_
      obtain ⟨g_31, h⟩ := ite_some h
      refine itp g_31 ?_
      obtain ⟨y_32, e_33, h⟩ := bind_or h
      refine bnd (erasureref01_Compare.mono _ _ _ _ _ hk e_33) ?_
      rcases ite_or h with ⟨g_34, h⟩ | ⟨g_34, h⟩
      · refine itp g_34 ?_
        exact ih _ _ _ _ _ _ r hk h
      · refine itn g_34 ?_
        obtain ⟨y_35, e_36, h⟩ := bind_or h
        refine bnd (erasureref30_Select.mono _ _ _ _ _ _ hk e_36) ?_
        exact h
    · refine itn g_29 ?_
      obtain ⟨y_37, e_38, h⟩ := bind_or h
      refine bnd (erasureref30_Select.mono _ _ _ _ _ _ hk e_38) ?_
      exact h
theorem erasureref30_Lookup.p2.mono   : ∀ (k k' : Nat) (A2 : (List TEntry)) (r4 : Int) (v15 : Int) (v16 : Int) (a5b : TCache) (v8b : TValue) (v13 : (List TCached)) (r : ((List TCached) × (List TEntry) × Int)), k ≤ k' → erasureref30_Lookup.p2 k A2 r4 v15 v16 a5b v8b v13 = some r → erasureref30_Lookup.p2 k' A2 r4 v15 v16 a5b v8b v13 = some r := by
  intro k
  induction k with
  | zero => intro k' A2 r4 v15 v16 a5b v8b v13 r hk h; simp [erasureref30_Lookup.p2] at h
  | succ k ih =>
    intro k' A2 r4 v15 v16 a5b v8b v13 r hk h
    obtain ⟨k', rfl⟩ : ∃ m, k' = m + 1 := ⟨k' - 1, by omega⟩
    replace hk := Nat.le_of_succ_le_succ hk
    rw [erasureref30_Lookup.p2] at h ⊢
    rcases ite_or h with ⟨g_18, h⟩ | ⟨g_18, h⟩
    · refine itp g_18 ?_
      obtain ⟨g_19, h⟩ := ite_some h
      refine itp g_19 ?_
      obtain ⟨g_20, h⟩ := ite_some h
      refine itp g_20 ?_
      rcases ite_or h with ⟨g_21, h⟩ | ⟨g_21, h⟩
      · refine itp g_21 ?_
        exact ih _ _ _ _ _ _ _ _ r hk h
      · refine itn g_21 ?_
        exact ih _ _ _ _ _ _ _ _ r hk h
    · refine itn g_18 ?_
      obtain ⟨g_22, h⟩ := ite_some h
      refine itp g_22 ?_
      obtain ⟨y_23, e_24, h⟩ := bind_or h
      refine bnd (erasureref30_without.mono _ _ _ _ _ hk e_24) ?_
      obtain ⟨g_25, h⟩ := ite_some h
      refine itp g_25 ?_
      obtain ⟨y_26, e_27, h⟩ := bind_or h
      refine bnd (erasureref30_Select.mono _ _ _ _ _ _ hk e_27) ?_
      obtain ⟨g_28, h⟩ := ite_some h
      refine itp g_28 ?_
      exact erasureref30_Lookup.p3.mono _ _ _ _ _ _ _ r hk h
theorem erasureref30_Lookup.p1.mono   : ∀ (k k' : Nat) (A2 : (List TEntry)) (r4 : Int) (v14 : Int) (a5b : TCache) (v8b : TValue) (v13 : (List TCached)) (r : ((List TCached) × (List TEntry) × Int)), k ≤ k' → erasureref30_Lookup.p1 k A2 r4 v14 a5b v8b v13 = some r → erasureref30_Lookup.p1 k' A2 r4 v14 a5b v8b v13 = some r := by
  intro k
  induction k with
  | zero => intro k' A2 r4 v14 a5b v8b v13 r hk h; simp [erasureref30_Lookup.p1] at h
  | succ k ih =>
    intro k' A2 r4 v14 a5b v8b v13 r hk h
    obtain ⟨k', rfl⟩ : ∃ m, k' = m + 1 := ⟨k' - 1, by omega⟩
    replace hk := Nat.le_of_succ_le_succ hk
    rw [erasureref30_Lookup.p1] at h ⊢
    rcases ite_or h with ⟨g_14, h⟩ | ⟨g_14, h⟩
    · refine itp g_14 ?_
      obtain ⟨g_15, h⟩ := ite_some h
      refine itp g_15 ?_
      rcases ite_or h with ⟨g_16, h⟩ | ⟨g_16, h⟩
      · refine itp g_16 ?_
        exact h
      · refine itn g_16 ?_
        exact ih _ _ _ _ _ _ _ r hk h
    · refine itn g_14 ?_
      rcases ite_or h with ⟨g_17, h⟩ | ⟨g_17, h⟩
      · refine itp g_17 ?_
        exact erasureref30_Lookup.p2.mono _ _ _ _ _ _ _ _ _ r hk h
      · refine itn g_17 ?_
        obtain ⟨g_39, h⟩ := ite_some h
        refine itp g_39 ?_
        obtain ⟨y_40, e_41, h⟩ := bind_or h
        refine bnd (erasureref30_Select.mono _ _ _ _ _ _ hk e_41) ?_
        obtain ⟨g_42, h⟩ := ite_some h
        refine itp g_42 ?_
        exact erasureref30_Lookup.p3.mono _ _ _ _ _ _ _ r hk h
theorem erasureref30_Lookup.mono   : ∀ (k k' : Nat) (t0 : TCache) (o1 : (List TCached)) (A2 : (List TEntry)) (r3 : TValue) (r4 : Int) (r : ((List TCached) × (List TEntry) × Int)), k ≤ k' → erasureref30_Lookup k t0 o1 A2 r3 r4 = some r → erasureref30_Lookup k' t0 o1 A2 r3 r4 = some r := by
  intro k k' t0 o1 A2 r3 r4 r hk h
  unfold erasureref30_Lookup at h ⊢
  obtain ⟨y_1, e_2, h⟩ := bind_or h
  refine bnd (erasureref30_Valid.mono _ _ _ _ hk e_2) ?_
  rcases ite_or h with ⟨g_3, h⟩ | ⟨g_3, h⟩
  · refine itp g_3 ?_
    exact h
  · refine itn g_3 ?_
    obtain ⟨y_4, e_5, h⟩ := bind_or h
    refine bnd (erasureref06_Valid.mono _ _ _ _ hk e_5) ?_
    rcases ite_or h with ⟨g_6, h⟩ | ⟨g_6, h⟩
    · refine itp g_6 ?_
      exact h
    · refine itn g_6 ?_
      obtain ⟨y_7, e_8, h⟩ := bind_or h
      refine bnd (erasureref30_ranged.mono _ _ _ _ _ hk e_8) ?_
      rcases ite_or h with ⟨g_9, h⟩ | ⟨g_9, h⟩
      · refine itp g_9 ?_
        exact h
      · refine itn g_9 ?_
        obtain ⟨y_10, e_11, h⟩ := bind_or h
        refine bnd (erasureref01_Clean.mono _ _ _ _ hk e_11) ?_
        obtain ⟨y_12, e_13, h⟩ := bind_or h
        refine bnd (erasureref30_Expire.mono _ _ _ _ _ _ hk e_13) ?_
        exact erasureref30_Lookup.p1.mono _ _ _ _ _ _ _ _ r hk h
theorem erasureref30_Lookup.spec {k : Nat} {t0 : TCache} {o1 : (List TCached)} {A2 : (List TEntry)} {r3 : TValue} {r4 : Int} {r : ((List TCached) × (List TEntry) × Int)} (h : erasureref30_Lookup k t0 o1 A2 r3 r4 = some r) : Spec Try.prog 19 [.agg ((cCache t0).map .p), .p (eL 5 cCached dCached o1), .p (eL 2 cEntry dEntry A2), .agg ((cValue r3).map .p), .p (.int .i64 r4)] (.tup [.sref 0 46 5 (r.1).length, .p ((eL 2 cEntry dEntry r.2.1)), .p (.int .i64 r.2.2)]) [(oL true 46 5 cCached dCached (r.1))] :=
  spec_of mix Try.func19 (body := bodyOf Try.f19) (by kernel_rfl) (by kernel_rfl) (erasureref30_Lookup.run h)
end Go.Proofs.YtjhnpaenhdbhpabV
set_option linter.unusedVariables false
set_option linter.unusedSimpArgs false
set_option maxRecDepth 100000
namespace Go.Proofs.YtjhnpaenhdbhpabV
open Go Go.RowKit
noncomputable def erasureref30_Same.p1  : Nat → (List TCached) → (List TCached) → Int → Option Bool
  | 0, _, _, _ => none
  | k + 1, a0, b1, i5 => if (decide (i5 < ((a0).length : Int))) = true then (if 0 ≤ i5 ∧ i5 < ((a0).length : Int) then (if 0 ≤ i5 ∧ i5 < ((b1).length : Int) then (if (!(((a0.getD i5.toNat dCached).f0.f0 == (b1.getD i5.toNat dCached).f0.f0) && (((a0.getD i5.toNat dCached).f0.f1 == (b1.getD i5.toNat dCached).f0.f1) && ((((a0.getD i5.toNat dCached).f0.f2).data.toList == ((b1.getD i5.toNat dCached).f0.f2).data.toList) && true)))) = true then (some false) else (if ((a0.getD i5.toNat dCached).f2 != (b1.getD i5.toNat dCached).f2) = true then (some false) else ((erasureref26_SameBag k ((a0.getD i5.toNat dCached).f1) ((b1.getD i5.toNat dCached).f1)).bind fun y_7 => (if (!y_7) = true then (some false) else (erasureref30_Same.p1 k a0 b1 (IntKind.i64.wrap (i5 + 1))))))) else none) else none) else (some true)
noncomputable def erasureref30_Same  (k : Nat) (a0 : (List TCached)) (b1 : (List TCached)) : Option Bool := if (((a0).length : Int) != ((b1).length : Int)) = true then (some false) else (erasureref30_Same.p1 k a0 b1 0)
noncomputable def erasureref30_Same.t : List Item := [.code (bodyOf Try.f20)]
noncomputable def erasureref30_Same.s (a0 : (List TCached)) (b1 : (List TCached)) : St := ⟨frOf Try.f20.ntmps 0 [(0, .p (eL 5 cCached dCached a0)), (1, .p (eL 5 cCached dCached b1))], []⟩
noncomputable def erasureref30_Same.p1.t : List Item := nav 12 [false] erasureref30_Same.t
noncomputable def erasureref30_Same.p1.s (a0 : (List TCached)) (b1 : (List TCached)) (i5 : Int) : St := ⟨frOf Try.f20.ntmps 0 [(0, .p (eL 5 cCached dCached a0)), (1, .p (eL 5 cCached dCached b1)), (5, .p (.int .i64 i5))], []⟩
theorem erasureref30_Same.p1.run   : ∀ (k : Nat) (a0 : (List TCached)) (b1 : (List TCached)) (i5 : Int) (r : Bool), erasureref30_Same.p1 k a0 b1 i5 = some r → RunC Try.prog Try.f20 erasureref30_Same.p1.t (erasureref30_Same.p1.s a0 b1 i5) (.p (.bool r)) [] := by
  intro k
  induction k with
  | zero => intro a0 b1 i5 r h; simp [erasureref30_Same.p1] at h
  | succ k ih =>
    intro a0 b1 i5 r h
    rw [erasureref30_Same.p1] at h
    rcases ite_or h with ⟨g_2, h⟩ | ⟨g_2, h⟩
    · obtain ⟨g_3, h⟩ := ite_some h
      obtain ⟨g_4, h⟩ := ite_some h
      rcases ite_or h with ⟨g_5, h⟩ | ⟨g_5, h⟩
      · obtain rfl := Option.some.inj h
        exact RunC.out [.n 2, .r [(3, .dec true)], .n 5, .r [(11, .dec true)], .n 3] (by kernel_rfl) (Obs.of (by kernel_rfl) (And.intro g_2 (And.intro g_3 (And.intro g_4 g_5))))
      · rcases ite_or h with ⟨g_6, h⟩ | ⟨g_6, h⟩
        · obtain rfl := Option.some.inj h
          exact RunC.out [.n 2, .r [(3, .dec true)], .n 5, .r [(11, .dec false), (24, .dec true)], .n 3] (by kernel_rfl) (Obs.of (by kernel_rfl) (And.intro g_2 (And.intro g_3 (And.intro g_4 (And.intro (nt g_5) (And.intro g_3 (And.intro g_4 g_6)))))))
        · obtain ⟨y_7, e_8, h⟩ := bind_or h
          rcases ite_or h with ⟨g_9, h⟩ | ⟨g_9, h⟩
          · obtain rfl := Option.some.inj h
            exact RunC.out [.n 2, .r [(3, .dec true)], .n 5, .r [(11, .dec false), (24, .dec false), (35, .call (.p (.bool y_7)) []), (37, .dec true)], .n 3] (by kernel_rfl) (Obs.of (by kernel_rfl) (And.intro g_2 (And.intro g_3 (And.intro g_4 (And.intro (nt g_5) (And.intro g_3 (And.intro g_4 (And.intro (nt g_6) (And.intro g_3 (And.intro g_4 (And.intro (erasureref26_SameBag.spec e_8) g_9)))))))))))
          · exact RunC.go [.n 2, .r [(3, .dec true)], .n 5, .r [(11, .dec false), (24, .dec false), (35, .call (.p (.bool y_7)) []), (37, .dec false)], .n 5, .k [0, 1, 5]] (by kernel_rfl) (Obs.of (by kernel_rfl) (And.intro g_2 (And.intro g_3 (And.intro g_4 (And.intro (nt g_5) (And.intro g_3 (And.intro g_4 (And.intro (nt g_6) (And.intro g_3 (And.intro g_4 (And.intro (erasureref26_SameBag.spec e_8) (nt g_9)))))))))))) (ih _ _ _ r h)
    · obtain rfl := Option.some.inj h
      exact RunC.out [.n 2, .r [(3, .dec false)], .n 4] (by kernel_rfl) (Obs.of (by kernel_rfl) (nt g_2))
theorem erasureref30_Same.run   {k : Nat} {a0 : (List TCached)} {b1 : (List TCached)} {r : Bool} (h : erasureref30_Same k a0 b1 = some r) : RunC Try.prog Try.f20 erasureref30_Same.t (erasureref30_Same.s a0 b1) (.p (.bool r)) [] := by
  unfold erasureref30_Same at h
  rcases ite_or h with ⟨g_1, h⟩ | ⟨g_1, h⟩
  · obtain rfl := Option.some.inj h
    exact RunC.out [.n 4, .r [(4, .dec true)], .n 3] (by kernel_rfl) (Obs.of (by kernel_rfl) g_1)
  · exact RunC.go [.n 4, .r [(4, .dec false)], .n 7, .k [0, 1, 5]] (by kernel_rfl) (Obs.of (by kernel_rfl) (nt g_1)) (erasureref30_Same.p1.run k _ _ _ r h)
theorem erasureref30_Same.p1.mono   : ∀ (k k' : Nat) (a0 : (List TCached)) (b1 : (List TCached)) (i5 : Int) (r : Bool), k ≤ k' → erasureref30_Same.p1 k a0 b1 i5 = some r → erasureref30_Same.p1 k' a0 b1 i5 = some r := by
  intro k
  induction k with
  | zero => intro k' a0 b1 i5 r hk h; simp [erasureref30_Same.p1] at h
  | succ k ih =>
    intro k' a0 b1 i5 r hk h
    obtain ⟨k', rfl⟩ : ∃ m, k' = m + 1 := ⟨k' - 1, by omega⟩
    replace hk := Nat.le_of_succ_le_succ hk
    rw [erasureref30_Same.p1] at h ⊢
    rcases ite_or h with ⟨g_2, h⟩ | ⟨g_2, h⟩
    · refine itp g_2 ?_
      obtain ⟨g_3, h⟩ := ite_some h
      refine itp g_3 ?_
      obtain ⟨g_4, h⟩ := ite_some h
      refine itp g_4 ?_
      rcases ite_or h with ⟨g_5, h⟩ | ⟨g_5, h⟩
      · refine itp g_5 ?_
        exact h
      · refine itn g_5 ?_
        rcases ite_or h with ⟨g_6, h⟩ | ⟨g_6, h⟩
        · refine itp g_6 ?_
          exact h
        · refine itn g_6 ?_
          obtain ⟨y_7, e_8, h⟩ := bind_or h
          refine bnd (erasureref26_SameBag.mono _ _ _ _ _ hk e_8) ?_
          rcases ite_or h with ⟨g_9, h⟩ | ⟨g_9, h⟩
          · refine itp g_9 ?_
            exact h
          · refine itn g_9 ?_
            exact ih _ _ _ _ r hk h
    · refine itn g_2 ?_
      exact h
theorem erasureref30_Same.mono   : ∀ (k k' : Nat) (a0 : (List TCached)) (b1 : (List TCached)) (r : Bool), k ≤ k' → erasureref30_Same k a0 b1 = some r → erasureref30_Same k' a0 b1 = some r := by
  intro k k' a0 b1 r hk h
  unfold erasureref30_Same at h ⊢
  rcases ite_or h with ⟨g_1, h⟩ | ⟨g_1, h⟩
  · refine itp g_1 ?_
    exact h
  · refine itn g_1 ?_
    exact erasureref30_Same.p1.mono _ _ _ _ _ r hk h
theorem erasureref30_Same.spec {k : Nat} {a0 : (List TCached)} {b1 : (List TCached)} {r : Bool} (h : erasureref30_Same k a0 b1 = some r) : Spec Try.prog 20 [.p (eL 5 cCached dCached a0), .p (eL 5 cCached dCached b1)] (.p (.bool r)) [] :=
  spec_of mix Try.func20 (body := bodyOf Try.f20) (by kernel_rfl) (by kernel_rfl) (erasureref30_Same.run h)
end Go.Proofs.YtjhnpaenhdbhpabV
set_option linter.unusedVariables false
set_option linter.unusedSimpArgs false
set_option maxRecDepth 100000
namespace Go.Proofs.YtjhnpaenhdbhpabV
open Go Go.RowKit
noncomputable def slices_Equal_api_Value.p1  : Nat → (List TValue) → (List TValue) → Int → Int → Option Bool
  | 0, _, _, _, _ => none
  | k + 1, s10, s21, v12, v13 => if (decide (v13 < v12)) = true then (if 0 ≤ v13 ∧ v13 < ((s10).length : Int) then (if 0 ≤ v13 ∧ v13 < ((s21).length : Int) then (if (!(((s10.getD v13.toNat dValue).f0 == (s21.getD v13.toNat dValue).f0) && (((s10.getD v13.toNat dValue).f1 == (s21.getD v13.toNat dValue).f1) && ((((s10.getD v13.toNat dValue).f2).data.toList == ((s21.getD v13.toNat dValue).f2).data.toList) && true)))) = true then (some false) else (slices_Equal_api_Value.p1 k s10 s21 v12 (IntKind.i64.wrap (v13 + 1)))) else none) else none) else (some true)
noncomputable def slices_Equal_api_Value  (k : Nat) (s10 : (List TValue)) (s21 : (List TValue)) : Option Bool := if (((s10).length : Int) != ((s21).length : Int)) = true then (some false) else (slices_Equal_api_Value.p1 k s10 s21 ((s10).length : Int) 0)
noncomputable def slices_Equal_api_Value.t : List Item := [.code (bodyOf Try.f66)]
noncomputable def slices_Equal_api_Value.s (s10 : (List TValue)) (s21 : (List TValue)) : St := ⟨frOf Try.f66.ntmps 0 [(0, .p (eL 3 cValue dValue s10)), (1, .p (eL 3 cValue dValue s21))], []⟩
noncomputable def slices_Equal_api_Value.p1.t : List Item := nav 12 [false] slices_Equal_api_Value.t
noncomputable def slices_Equal_api_Value.p1.s (s10 : (List TValue)) (s21 : (List TValue)) (v12 : Int) (v13 : Int) : St := ⟨frOf Try.f66.ntmps 0 [(0, .p (eL 3 cValue dValue s10)), (1, .p (eL 3 cValue dValue s21)), (12, .p (.int .i64 v12)), (13, .p (.int .i64 v13))], []⟩
theorem slices_Equal_api_Value.p1.run   : ∀ (k : Nat) (s10 : (List TValue)) (s21 : (List TValue)) (v12 : Int) (v13 : Int) (r : Bool), slices_Equal_api_Value.p1 k s10 s21 v12 v13 = some r → RunC Try.prog Try.f66 slices_Equal_api_Value.p1.t (slices_Equal_api_Value.p1.s s10 s21 v12 v13) (.p (.bool r)) [] := by
  intro k
  induction k with
  | zero => intro s10 s21 v12 v13 r h; simp [slices_Equal_api_Value.p1] at h
  | succ k ih =>
    intro s10 s21 v12 v13 r h
    rw [slices_Equal_api_Value.p1] at h
    rcases ite_or h with ⟨g_2, h⟩ | ⟨g_2, h⟩
    · obtain ⟨g_3, h⟩ := ite_some h
      obtain ⟨g_4, h⟩ := ite_some h
      rcases ite_or h with ⟨g_5, h⟩ | ⟨g_5, h⟩
      · obtain rfl := Option.some.inj h
        exact RunC.out [.n 1, .r [(0, .dec true)], .n 8, .r [(8, .dec true)], .n 3] (by kernel_rfl) (Obs.of (by kernel_rfl) (And.intro g_2 (And.intro g_3 (And.intro g_4 g_5))))
      · exact RunC.go [.n 1, .r [(0, .dec true)], .n 8, .r [(8, .dec false)], .n 5, .k [0, 1, 12, 13]] (by kernel_rfl) (Obs.of (by kernel_rfl) (And.intro g_2 (And.intro g_3 (And.intro g_4 (nt g_5))))) (ih _ _ _ _ r h)
    · obtain rfl := Option.some.inj h
      exact RunC.out [.n 1, .r [(0, .dec false)], .n 5] (by kernel_rfl) (Obs.of (by kernel_rfl) (nt g_2))
theorem slices_Equal_api_Value.run   {k : Nat} {s10 : (List TValue)} {s21 : (List TValue)} {r : Bool} (h : slices_Equal_api_Value k s10 s21 = some r) : RunC Try.prog Try.f66 slices_Equal_api_Value.t (slices_Equal_api_Value.s s10 s21) (.p (.bool r)) [] := by
  unfold slices_Equal_api_Value at h
  rcases ite_or h with ⟨g_1, h⟩ | ⟨g_1, h⟩
  · obtain rfl := Option.some.inj h
    exact RunC.out [.n 4, .r [(4, .dec true)], .n 3] (by kernel_rfl) (Obs.of (by kernel_rfl) g_1)
  · exact RunC.go [.n 4, .r [(4, .dec false)], .n 7, .k [0, 1, 12, 13]] (by kernel_rfl) (Obs.of (by kernel_rfl) (nt g_1)) (slices_Equal_api_Value.p1.run k _ _ _ _ r h)
theorem slices_Equal_api_Value.p1.mono   : ∀ (k k' : Nat) (s10 : (List TValue)) (s21 : (List TValue)) (v12 : Int) (v13 : Int) (r : Bool), k ≤ k' → slices_Equal_api_Value.p1 k s10 s21 v12 v13 = some r → slices_Equal_api_Value.p1 k' s10 s21 v12 v13 = some r := by
  intro k
  induction k with
  | zero => intro k' s10 s21 v12 v13 r hk h; simp [slices_Equal_api_Value.p1] at h
  | succ k ih =>
    intro k' s10 s21 v12 v13 r hk h
    obtain ⟨k', rfl⟩ : ∃ m, k' = m + 1 := ⟨k' - 1, by omega⟩
    replace hk := Nat.le_of_succ_le_succ hk
    rw [slices_Equal_api_Value.p1] at h ⊢
    rcases ite_or h with ⟨g_2, h⟩ | ⟨g_2, h⟩
    · refine itp g_2 ?_
      obtain ⟨g_3, h⟩ := ite_some h
      refine itp g_3 ?_
      obtain ⟨g_4, h⟩ := ite_some h
      refine itp g_4 ?_
      rcases ite_or h with ⟨g_5, h⟩ | ⟨g_5, h⟩
      · refine itp g_5 ?_
        exact h
      · refine itn g_5 ?_
        exact ih _ _ _ _ _ r hk h
    · refine itn g_2 ?_
      exact h
theorem slices_Equal_api_Value.mono   : ∀ (k k' : Nat) (s10 : (List TValue)) (s21 : (List TValue)) (r : Bool), k ≤ k' → slices_Equal_api_Value k s10 s21 = some r → slices_Equal_api_Value k' s10 s21 = some r := by
  intro k k' s10 s21 r hk h
  unfold slices_Equal_api_Value at h ⊢
  rcases ite_or h with ⟨g_1, h⟩ | ⟨g_1, h⟩
  · refine itp g_1 ?_
    exact h
  · refine itn g_1 ?_
    exact slices_Equal_api_Value.p1.mono _ _ _ _ _ _ r hk h
theorem slices_Equal_api_Value.spec {k : Nat} {s10 : (List TValue)} {s21 : (List TValue)} {r : Bool} (h : slices_Equal_api_Value k s10 s21 = some r) : Spec Try.prog 66 [.p (eL 3 cValue dValue s10), .p (eL 3 cValue dValue s21)] (.p (.bool r)) [] :=
  spec_of mix Try.func66 (body := bodyOf Try.f66) (by kernel_rfl) (by kernel_rfl) (slices_Equal_api_Value.run h)
end Go.Proofs.YtjhnpaenhdbhpabV
set_option linter.unusedVariables false
set_option linter.unusedSimpArgs false
set_option maxRecDepth 100000
namespace Go.Proofs.YtjhnpaenhdbhpabV
open Go Go.RowKit
noncomputable def cache_same.p1  : Nat → (List TEntry) → (List TEntry) → Int → Option Bool
  | 0, _, _, _ => none
  | k + 1, a0, b1, i5 => if (decide (i5 < ((a0).length : Int))) = true then (if 0 ≤ i5 ∧ i5 < ((a0).length : Int) then (if 0 ≤ i5 ∧ i5 < ((b1).length : Int) then (if ((a0.getD i5.toNat dEntry).f1 != (b1.getD i5.toNat dEntry).f1) = true then (some false) else ((slices_Equal_api_Value k ((a0.getD i5.toNat dEntry).f0) ((b1.getD i5.toNat dEntry).f0)).bind fun y_6 => (if (!y_6) = true then (some false) else (cache_same.p1 k a0 b1 (IntKind.i64.wrap (i5 + 1)))))) else none) else none) else (some true)
noncomputable def cache_same  (k : Nat) (a0 : (List TEntry)) (b1 : (List TEntry)) : Option Bool := if (((a0).length : Int) != ((b1).length : Int)) = true then (some false) else (cache_same.p1 k a0 b1 0)
noncomputable def cache_same.t : List Item := [.code (bodyOf Try.f52)]
noncomputable def cache_same.s (a0 : (List TEntry)) (b1 : (List TEntry)) : St := ⟨frOf Try.f52.ntmps 0 [(0, .p (eL 2 cEntry dEntry a0)), (1, .p (eL 2 cEntry dEntry b1))], []⟩
noncomputable def cache_same.p1.t : List Item := nav 12 [false] cache_same.t
noncomputable def cache_same.p1.s (a0 : (List TEntry)) (b1 : (List TEntry)) (i5 : Int) : St := ⟨frOf Try.f52.ntmps 0 [(0, .p (eL 2 cEntry dEntry a0)), (1, .p (eL 2 cEntry dEntry b1)), (5, .p (.int .i64 i5))], []⟩
theorem cache_same.p1.run   : ∀ (k : Nat) (a0 : (List TEntry)) (b1 : (List TEntry)) (i5 : Int) (r : Bool), cache_same.p1 k a0 b1 i5 = some r → RunC Try.prog Try.f52 cache_same.p1.t (cache_same.p1.s a0 b1 i5) (.p (.bool r)) [] := by
  intro k
  induction k with
  | zero => intro a0 b1 i5 r h; simp [cache_same.p1] at h
  | succ k ih =>
    intro a0 b1 i5 r h
    rw [cache_same.p1] at h
    rcases ite_or h with ⟨g_2, h⟩ | ⟨g_2, h⟩
    · obtain ⟨g_3, h⟩ := ite_some h
      obtain ⟨g_4, h⟩ := ite_some h
      rcases ite_or h with ⟨g_5, h⟩ | ⟨g_5, h⟩
      · obtain rfl := Option.some.inj h
        exact RunC.out [.n 2, .r [(3, .dec true)], .n 5, .r [(11, .dec true)], .n 3] (by kernel_rfl) (Obs.of (by kernel_rfl) (And.intro g_2 (And.intro g_3 (And.intro g_4 g_5))))
      · obtain ⟨y_6, e_7, h⟩ := bind_or h
        rcases ite_or h with ⟨g_8, h⟩ | ⟨g_8, h⟩
        · obtain rfl := Option.some.inj h
          exact RunC.out [.n 2, .r [(3, .dec true)], .n 5, .r [(11, .dec false), (22, .call (.p (.bool y_6)) []), (24, .dec true)], .n 3] (by kernel_rfl) (Obs.of (by kernel_rfl) (And.intro g_2 (And.intro g_3 (And.intro g_4 (And.intro (nt g_5) (And.intro g_3 (And.intro g_4 (And.intro (slices_Equal_api_Value.spec e_7) g_8))))))))
        · exact RunC.go [.n 2, .r [(3, .dec true)], .n 5, .r [(11, .dec false), (22, .call (.p (.bool y_6)) []), (24, .dec false)], .n 5, .k [0, 1, 5]] (by kernel_rfl) (Obs.of (by kernel_rfl) (And.intro g_2 (And.intro g_3 (And.intro g_4 (And.intro (nt g_5) (And.intro g_3 (And.intro g_4 (And.intro (slices_Equal_api_Value.spec e_7) (nt g_8))))))))) (ih _ _ _ r h)
    · obtain rfl := Option.some.inj h
      exact RunC.out [.n 2, .r [(3, .dec false)], .n 4] (by kernel_rfl) (Obs.of (by kernel_rfl) (nt g_2))
theorem cache_same.run   {k : Nat} {a0 : (List TEntry)} {b1 : (List TEntry)} {r : Bool} (h : cache_same k a0 b1 = some r) : RunC Try.prog Try.f52 cache_same.t (cache_same.s a0 b1) (.p (.bool r)) [] := by
  unfold cache_same at h
  rcases ite_or h with ⟨g_1, h⟩ | ⟨g_1, h⟩
  · obtain rfl := Option.some.inj h
    exact RunC.out [.n 4, .r [(4, .dec true)], .n 3] (by kernel_rfl) (Obs.of (by kernel_rfl) g_1)
  · exact RunC.go [.n 4, .r [(4, .dec false)], .n 7, .k [0, 1, 5]] (by kernel_rfl) (Obs.of (by kernel_rfl) (nt g_1)) (cache_same.p1.run k _ _ _ r h)
theorem cache_same.p1.mono   : ∀ (k k' : Nat) (a0 : (List TEntry)) (b1 : (List TEntry)) (i5 : Int) (r : Bool), k ≤ k' → cache_same.p1 k a0 b1 i5 = some r → cache_same.p1 k' a0 b1 i5 = some r := by
  intro k
  induction k with
  | zero => intro k' a0 b1 i5 r hk h; simp [cache_same.p1] at h
  | succ k ih =>
    intro k' a0 b1 i5 r hk h
    obtain ⟨k', rfl⟩ : ∃ m, k' = m + 1 := ⟨k' - 1, by omega⟩
    replace hk := Nat.le_of_succ_le_succ hk
    rw [cache_same.p1] at h ⊢
    rcases ite_or h with ⟨g_2, h⟩ | ⟨g_2, h⟩
    · refine itp g_2 ?_
      obtain ⟨g_3, h⟩ := ite_some h
      refine itp g_3 ?_
      obtain ⟨g_4, h⟩ := ite_some h
      refine itp g_4 ?_
      rcases ite_or h with ⟨g_5, h⟩ | ⟨g_5, h⟩
      · refine itp g_5 ?_
        exact h
      · refine itn g_5 ?_
        obtain ⟨y_6, e_7, h⟩ := bind_or h
        refine bnd (slices_Equal_api_Value.mono _ _ _ _ _ hk e_7) ?_
        rcases ite_or h with ⟨g_8, h⟩ | ⟨g_8, h⟩
        · refine itp g_8 ?_
          exact h
        · refine itn g_8 ?_
          exact ih _ _ _ _ r hk h
    · refine itn g_2 ?_
      exact h
theorem cache_same.mono   : ∀ (k k' : Nat) (a0 : (List TEntry)) (b1 : (List TEntry)) (r : Bool), k ≤ k' → cache_same k a0 b1 = some r → cache_same k' a0 b1 = some r := by
  intro k k' a0 b1 r hk h
  unfold cache_same at h ⊢
  rcases ite_or h with ⟨g_1, h⟩ | ⟨g_1, h⟩
  · refine itp g_1 ?_
    exact h
  · refine itn g_1 ?_
    exact cache_same.p1.mono _ _ _ _ _ r hk h
theorem cache_same.spec {k : Nat} {a0 : (List TEntry)} {b1 : (List TEntry)} {r : Bool} (h : cache_same k a0 b1 = some r) : Spec Try.prog 52 [.p (eL 2 cEntry dEntry a0), .p (eL 2 cEntry dEntry b1)] (.p (.bool r)) [] :=
  spec_of mix Try.func52 (body := bodyOf Try.f52) (by kernel_rfl) (by kernel_rfl) (cache_same.run h)
end Go.Proofs.YtjhnpaenhdbhpabV
