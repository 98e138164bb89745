/- Part of the proof of CacheForgets: printed by programs of this repo out of the translation, and by hand. Each theorem's conditions stand in its statement. -/
import Derived.WideShapes
import Derived.ProofKit
import Derived.OpenShut
import Derived.ShutString
import Derived.ChangeOld
import Derived.SizedLaws
import Derived.ChangeSlices
import Derived.Orders
import Derived.Below
import Derived.Laws.AppendOwn
import Derived.Laws.OwnMore
import Derived.KernelRfl
import Derived.Test.YtjhnpaenhdbhpabMCacheForgetsa
import Derived.Test.YtjhnpaenhdbhpabMCacheForgetsb
import Derived.Test.YtjhnpaenhdbhpabMCacheForgetsc
import Derived.Test.YtjhnpaenhdbhpabMCacheForgetsd
set_option linter.unusedVariables false
set_option linter.unusedSimpArgs false
set_option maxRecDepth 100000
namespace Go.Proofs.YtjhnpaenhdbhpabV
open Go Go.RowKit
noncomputable def erasureref30_Lookup.p3  : Nat → (List TEntry) → Int → TCache → TValue → (List TCached) → Option ((List TCached) × (List TEntry) × Int)
  | 0, _, _, _, _, _ => none
  | k + 1, A2, v18, a5b, v8b, v17 => if (decide (v18 > 0)) = true then (if 0 ≤ v18 ∧ v18 < ((v17).length : Int) then (if 0 ≤ (IntKind.i64.wrap (v18 - 1)) ∧ (IntKind.i64.wrap (v18 - 1)) < ((v17).length : Int) then ((erasureref01_Compare k ((v17.getD v18.toNat dCached).f0) ((v17.getD (IntKind.i64.wrap (v18 - 1)).toNat dCached).f0)).bind fun y_32 => (if (decide (y_32 < 0)) = true then (erasureref30_Lookup.p3 k A2 (IntKind.i64.wrap (v18 - 1)) a5b v8b ((v17.set (IntKind.i64.wrap (v18 - 1)).toNat (v17.getD v18.toNat dCached)).set v18.toNat (v17.getD (IntKind.i64.wrap (v18 - 1)).toNat dCached))) else ((erasureref30_Select k A2 a5b.f2 v8b).bind fun y_35 => (some (v17, y_35, 0))))) else none) else none) else ((erasureref30_Select k A2 a5b.f2 v8b).bind fun y_37 => (some (v17, y_37, 0)))
noncomputable def erasureref30_Lookup.p2  : Nat → (List TEntry) → Int → Int → Int → TCache → TValue → (List TCached) → Option ((List TCached) × (List TEntry) × Int)
  | 0, _, _, _, _, _, _, _ => none
  | k + 1, A2, r4, v15, v16, a5b, v8b, v13 => if (decide (v16 < ((v13).length : Int))) = true then (if 0 ≤ v16 ∧ v16 < ((v13).length : Int) then (if 0 ≤ v15 ∧ v15 < ((v13).length : Int) then (if (decide ((v13.getD v16.toNat dCached).f2 < (v13.getD v15.toNat dCached).f2)) = true then (erasureref30_Lookup.p2 k A2 r4 v16 (IntKind.i64.wrap (v16 + 1)) a5b v8b v13) else (erasureref30_Lookup.p2 k A2 r4 v15 (IntKind.i64.wrap (v16 + 1)) a5b v8b v13)) else none) else none) else (if 0 ≤ v15 ∧ v15 < ((v13).length : Int) then ((erasureref30_without k v13 ((v13.getD v15.toNat dCached).f0)).bind fun y_23 => (if (([] : List TCached)).length + (y_23).length ≤ maxLen ∧ ((([] : List TCached)).length + (y_23).length) * 64 ≤ 140737488355328 then ((erasureref30_Select k A2 a5b.f2 v8b).bind fun y_26 => (if ((([] : List TCached) ++ y_23)).length + ([(TCached.mk v8b y_26 r4)]).length ≤ maxLen ∧ (((([] : List TCached) ++ y_23)).length + ([(TCached.mk v8b y_26 r4)]).length) * 64 ≤ 140737488355328 then (erasureref30_Lookup.p3 k A2 (IntKind.i64.wrap (((((([] : List TCached) ++ y_23) ++ ([(TCached.mk v8b y_26 r4)]))).length : Int) - 1)) a5b v8b ((([] : List TCached) ++ y_23) ++ ([(TCached.mk v8b y_26 r4)]))) else none)) else none)) else none)
noncomputable def erasureref30_Lookup.p1  : Nat → (List TEntry) → Int → Int → TCache → TValue → (List TCached) → Option ((List TCached) × (List TEntry) × Int)
  | 0, _, _, _, _, _, _ => none
  | k + 1, A2, r4, v14, a5b, v8b, v13 => if (decide (v14 < ((v13).length : Int))) = true then (if 0 ≤ v14 ∧ v14 < ((v13).length : Int) then (if (((v13.getD v14.toNat dCached).f0.f0 == v8b.f0) && (((v13.getD v14.toNat dCached).f0.f1 == v8b.f1) && ((((v13.getD v14.toNat dCached).f0.f2).data.toList == v8b.f2.data.toList) && true))) = true then (some (v13, (v13.getD v14.toNat dCached).f1, 0)) else (erasureref30_Lookup.p1 k A2 r4 (IntKind.i64.wrap (v14 + 1)) a5b v8b v13)) else none) else (if (decide (((v13).length : Int) ≥ 16)) = true then (erasureref30_Lookup.p2 k A2 r4 0 1 a5b v8b v13) else (if (([] : List TCached)).length + (v13).length ≤ maxLen ∧ ((([] : List TCached)).length + (v13).length) * 64 ≤ 140737488355328 then ((erasureref30_Select k A2 a5b.f2 v8b).bind fun y_40 => (if ((([] : List TCached) ++ v13)).length + ([(TCached.mk v8b y_40 r4)]).length ≤ maxLen ∧ (((([] : List TCached) ++ v13)).length + ([(TCached.mk v8b y_40 r4)]).length) * 64 ≤ 140737488355328 then (erasureref30_Lookup.p3 k A2 (IntKind.i64.wrap (((((([] : List TCached) ++ v13) ++ ([(TCached.mk v8b y_40 r4)]))).length : Int) - 1)) a5b v8b ((([] : List TCached) ++ v13) ++ ([(TCached.mk v8b y_40 r4)]))) else none)) else none))
noncomputable def erasureref30_Lookup  (k : Nat) (t0 : TCache) (o1 : (List TCached)) (A2 : (List TEntry)) (r3 : TValue) (r4 : Int) : Option ((List TCached) × (List TEntry) × Int) := (erasureref30_Valid k o1).bind fun y_1 => (if (!y_1) = true then (some (([] : List TCached), ([] : List TEntry), 1)) else ((erasureref06_Valid k A2).bind fun y_4 => (if (!y_4) = true then (some (([] : List TCached), ([] : List TEntry), 1)) else ((erasureref30_ranged k t0 r4).bind fun y_7 => (if (!y_7) = true then (some (([] : List TCached), ([] : List TEntry), 1)) else ((erasureref01_Clean k r3).bind fun y_10 => ((erasureref30_Expire k t0 o1 r4).bind fun y_12 => (erasureref30_Lookup.p1 k A2 r4 0 t0 y_10 y_12))))))))
noncomputable def erasureref30_Lookup.t : List Item := [.code (bodyOf Try.f19)]
noncomputable def erasureref30_Lookup.s (t0 : TCache) (o1 : (List TCached)) (A2 : (List TEntry)) (r3 : TValue) (r4 : Int) : St := ⟨frOf Try.f19.ntmps 0 [(0, .agg ((cCache t0).map .p)), (1, .p (eL 5 cCached dCached o1)), (2, .p (eL 2 cEntry dEntry A2)), (3, .agg ((cValue r3).map .p)), (4, .p (.int .i64 r4))], []⟩
noncomputable def erasureref30_Lookup.p1.t : List Item := nav 16 [false] erasureref30_Lookup.t
noncomputable def erasureref30_Lookup.p1.s (A2 : (List TEntry)) (r4 : Int) (v14 : Int) (a5b : TCache) (v8b : TValue) (v13 : (List TCached)) : St := ⟨frOf Try.f19.ntmps 0 [(2, .p (eL 2 cEntry dEntry A2)), (4, .p (.int .i64 r4)), (5, .ptr 0 0 0), (8, .ptr 1 0 0), (13, .sref 2 46 5 (v13).length), (14, .p (.int .i64 v14))], [.box ((cCache a5b).map .p), .box ((cValue v8b).map .p), (oL true 46 5 cCached dCached v13)]⟩
noncomputable def erasureref30_Lookup.p2.t : List Item := nav 16 [false, true] erasureref30_Lookup.p1.t
noncomputable def erasureref30_Lookup.p2.s (A2 : (List TEntry)) (r4 : Int) (v15 : Int) (v16 : Int) (a5b : TCache) (v8b : TValue) (v13 : (List TCached)) : St := ⟨frOf Try.f19.ntmps 0 [(2, .p (eL 2 cEntry dEntry A2)), (4, .p (.int .i64 r4)), (5, .ptr 0 0 0), (8, .ptr 1 0 0), (13, .sref 2 46 5 (v13).length), (15, .p (.int .i64 v15)), (16, .p (.int .i64 v16))], [.box ((cCache a5b).map .p), .box ((cValue v8b).map .p), (oL true 46 5 cCached dCached v13)]⟩
noncomputable def erasureref30_Lookup.p3.t : List Item := nav 13 [false] erasureref30_Lookup.p2.t
noncomputable def erasureref30_Lookup.p3.s (A2 : (List TEntry)) (v18 : Int) (a5b : TCache) (v8b : TValue) (v17 : (List TCached)) : St := ⟨frOf Try.f19.ntmps 0 [(2, .p (eL 2 cEntry dEntry A2)), (5, .ptr 0 0 0), (8, .ptr 1 0 0), (17, .sref 2 46 5 (v17).length), (18, .p (.int .i64 v18))], [.box ((cCache a5b).map .p), .box ((cValue v8b).map .p), (oL true 46 5 cCached dCached v17)]⟩
theorem erasureref30_Lookup.p3.run   : ∀ (k : Nat) (A2 : (List TEntry)) (v18 : Int) (a5b : TCache) (v8b : TValue) (v17 : (List TCached)) (r : ((List TCached) × (List TEntry) × Int)), erasureref30_Lookup.p3 k A2 v18 a5b v8b v17 = some r → RunC Try.prog Try.f19 erasureref30_Lookup.p3.t (erasureref30_Lookup.p3.s A2 v18 a5b v8b v17) (.tup [.sref 0 46 5 (r.1).length, .p ((eL 2 cEntry dEntry r.2.1)), .p (.int .i64 r.2.2)]) [(oL true 46 5 cCached dCached (r.1))] := by
  intro k
  induction k with
  | zero => intro A2 v18 a5b v8b v17 r h; simp [erasureref30_Lookup.p3] at h
  | succ k ih =>
    intro A2 v18 a5b v8b v17 r h
    rw [erasureref30_Lookup.p3] at h
    rcases ite_or h with ⟨g_29, h⟩ | ⟨g_29, h⟩
    · obtain ⟨g_30, h⟩ := ite_some h
      obtain ⟨g_31, h⟩ := ite_some h
      obtain ⟨y_32, e_33, h⟩ := bind_or h
      rcases ite_or h with ⟨g_34, h⟩ | ⟨g_34, h⟩
      · exact RunC.go [.n 2, .r [(2, .dec true), (14, .call (.p (.int .i64 y_32)) []), (16, .dec true)], .n 4, .r [(15, .obj (oL true 46 5 cCached dCached (v17.set (IntKind.i64.wrap (v18 - 1)).toNat (v17.getD v18.toNat dCached)))), (17, .obj (oL true 46 5 cCached dCached ((v17.set (IntKind.i64.wrap (v18 - 1)).toNat (v17.getD v18.toNat dCached)).set v18.toNat (v17.getD (IntKind.i64.wrap (v18 - 1)).toNat dCached))))], .n 3, .k [2, 5, 8, 17, 18]] (by kernel_rfl) (Obs.of (by kernel_rfl) (And.intro g_29 (And.intro g_30 (And.intro g_31 (And.intro (erasureref01_Compare.spec e_33) (And.intro g_34 (And.intro g_30 (And.intro g_31 (And.intro g_31 (And.intro (le_set 46 5 cCached dCached v17 (v17.getD v18.toNat dCached) (IntKind.i64.wrap (v18 - 1)).toNat rfl) (And.intro g_30 (le_set 46 5 cCached dCached (v17.set (IntKind.i64.wrap (v18 - 1)).toNat (v17.getD v18.toNat dCached)) (v17.getD (IntKind.i64.wrap (v18 - 1)).toNat dCached) v18.toNat rfl)))))))))))) (ih _ _ _ _ _ r h)
      · obtain ⟨y_35, e_36, h⟩ := bind_or h
        obtain rfl := Option.some.inj h
        exact RunC.out [.n 2, .r [(2, .dec true), (14, .call (.p (.int .i64 y_32)) []), (16, .dec false)], .n 3, .r [(5, .call (.sref 0 36 2 (y_35).length) [(oL true 36 2 cEntry dEntry y_35)])], .f 11] (by kernel_rfl) (Obs.of (by kernel_rfl) (And.intro g_29 (And.intro g_30 (And.intro g_31 (And.intro (erasureref01_Compare.spec e_33) (And.intro (nt g_34) (erasureref30_Select.spec e_36)))))))
    · obtain ⟨y_37, e_38, h⟩ := bind_or h
      obtain rfl := Option.some.inj h
      exact RunC.out [.n 2, .r [(2, .dec false)], .n 3, .r [(5, .call (.sref 0 36 2 (y_37).length) [(oL true 36 2 cEntry dEntry y_37)])], .f 11] (by kernel_rfl) (Obs.of (by kernel_rfl) (And.intro (nt g_29) (erasureref30_Select.spec e_38)))
theorem erasureref30_Lookup.p2.run   : ∀ (k : Nat) (A2 : (List TEntry)) (r4 : Int) (v15 : Int) (v16 : Int) (a5b : TCache) (v8b : TValue) (v13 : (List TCached)) (r : ((List TCached) × (List TEntry) × Int)), erasureref30_Lookup.p2 k A2 r4 v15 v16 a5b v8b v13 = some r → RunC Try.prog Try.f19 erasureref30_Lookup.p2.t (erasureref30_Lookup.p2.s A2 r4 v15 v16 a5b v8b v13) (.tup [.sref 0 46 5 (r.1).length, .p ((eL 2 cEntry dEntry r.2.1)), .p (.int .i64 r.2.2)]) [(oL true 46 5 cCached dCached (r.1))] := by
  intro k
  induction k with
  | zero => intro A2 r4 v15 v16 a5b v8b v13 r h; simp [erasureref30_Lookup.p2] at h
  | succ k ih =>
    intro A2 r4 v15 v16 a5b v8b v13 r h
    rw [erasureref30_Lookup.p2] at h
    rcases ite_or h with ⟨g_18, h⟩ | ⟨g_18, h⟩
    · obtain ⟨g_19, h⟩ := ite_some h
      obtain ⟨g_20, h⟩ := ite_some h
      rcases ite_or h with ⟨g_21, h⟩ | ⟨g_21, h⟩
      · exact RunC.go [.n 2, .r [(3, .dec true)], .n 5, .r [(10, .dec true)], .n 5, .k [2, 4, 5, 8, 13, 15, 16]] (by kernel_rfl) (Obs.of (by kernel_rfl) (And.intro g_18 (And.intro g_19 (And.intro g_20 g_21)))) (ih _ _ _ _ _ _ _ r h)
      · exact RunC.go [.n 2, .r [(3, .dec true)], .n 5, .r [(10, .dec false)], .n 5, .k [2, 4, 5, 8, 13, 15, 16]] (by kernel_rfl) (Obs.of (by kernel_rfl) (And.intro g_18 (And.intro g_19 (And.intro g_20 (nt g_21))))) (ih _ _ _ _ _ _ _ r h)
    · obtain ⟨g_22, h⟩ := ite_some h
      obtain ⟨y_23, e_24, h⟩ := bind_or h
      obtain ⟨g_25, h⟩ := ite_some h
      obtain ⟨y_26, e_27, h⟩ := bind_or h
      obtain ⟨g_28, h⟩ := ite_some h
      exact RunC.go [.n 2, .r [(3, .dec false)], .n 2, .r [(6, .call (.sref 0 46 5 (y_23).length) [(oL true 46 5 cCached dCached y_23)])], .n 1, .r [(0, .obj (oL true 46 5 cCached dCached ([] : List TCached))), (2, .obj (oL true 46 5 cCached dCached (([] : List TCached) ++ y_23))), (8, .call (.sref 0 36 2 (y_26).length) [(oL true 36 2 cEntry dEntry y_26)]), (11, .obj (oL true 46 5 cCached dCached [(TCached.mk v8b y_26 r4)])), (12, .obj (oL true 46 5 cCached dCached ((([] : List TCached) ++ y_23) ++ ([(TCached.mk v8b y_26 r4)]))))], .n 5, .k [2, 5, 8, 17, 18]] (by kernel_rfl) (Obs.of (by kernel_rfl) (And.intro (nt g_18) (And.intro g_22 (And.intro (erasureref30_without.spec e_24) (And.intro (le_build0 46 5 cCached dCached) (And.intro (And.intro g_25 (le_app 46 5 cCached dCached ([] : List TCached) y_23)) (And.intro (erasureref30_Select.spec e_27) (And.intro (le_one 46 5 cCached dCached (TCached.mk v8b y_26 r4)) (And.intro g_28 (le_app 46 5 cCached dCached (([] : List TCached) ++ y_23) ([(TCached.mk v8b y_26 r4)]))))))))))) (erasureref30_Lookup.p3.run k _ _ _ _ _ r h)
theorem erasureref30_Lookup.p1.run   : ∀ (k : Nat) (A2 : (List TEntry)) (r4 : Int) (v14 : Int) (a5b : TCache) (v8b : TValue) (v13 : (List TCached)) (r : ((List TCached) × (List TEntry) × Int)), erasureref30_Lookup.p1 k A2 r4 v14 a5b v8b v13 = some r → RunC Try.prog Try.f19 erasureref30_Lookup.p1.t (erasureref30_Lookup.p1.s A2 r4 v14 a5b v8b v13) (.tup [.sref 0 46 5 (r.1).length, .p ((eL 2 cEntry dEntry r.2.1)), .p (.int .i64 r.2.2)]) [(oL true 46 5 cCached dCached (r.1))] := by
  intro k
  induction k with
  | zero => intro A2 r4 v14 a5b v8b v13 r h; simp [erasureref30_Lookup.p1] at h
  | succ k ih =>
    intro A2 r4 v14 a5b v8b v13 r h
    rw [erasureref30_Lookup.p1] at h
    rcases ite_or h with ⟨g_14, h⟩ | ⟨g_14, h⟩
    · obtain ⟨g_15, h⟩ := ite_some h
      rcases ite_or h with ⟨g_16, h⟩ | ⟨g_16, h⟩
      · obtain rfl := Option.some.inj h
        exact RunC.out [.n 2, .r [(3, .dec true)], .n 5, .r [(6, .dec true)], .n 3] (by kernel_rfl) (Obs.of (by kernel_rfl) (And.intro g_14 (And.intro g_15 (And.intro g_16 g_15))))
      · exact RunC.go [.n 2, .r [(3, .dec true)], .n 5, .r [(6, .dec false)], .n 5, .k [2, 4, 5, 8, 13, 14]] (by kernel_rfl) (Obs.of (by kernel_rfl) (And.intro g_14 (And.intro g_15 (nt g_16)))) (ih _ _ _ _ _ _ r h)
    · rcases ite_or h with ⟨g_17, h⟩ | ⟨g_17, h⟩
      · exact RunC.go [.n 2, .r [(3, .dec false)], .n 4, .r [(2, .dec true)], .n 8, .k [2, 4, 5, 8, 13, 15, 16]] (by kernel_rfl) (Obs.of (by kernel_rfl) (And.intro (nt g_14) g_17)) (erasureref30_Lookup.p2.run k _ _ _ _ _ _ _ r h)
      · obtain ⟨g_39, h⟩ := ite_some h
        obtain ⟨y_40, e_41, h⟩ := bind_or h
        obtain ⟨g_42, h⟩ := ite_some h
        exact RunC.go [.n 2, .r [(3, .dec false)], .n 4, .r [(2, .dec false)], .n 3, .r [(0, .obj (oL true 46 5 cCached dCached ([] : List TCached))), (2, .obj (oL true 46 5 cCached dCached (([] : List TCached) ++ v13))), (8, .call (.sref 0 36 2 (y_40).length) [(oL true 36 2 cEntry dEntry y_40)]), (11, .obj (oL true 46 5 cCached dCached [(TCached.mk v8b y_40 r4)])), (12, .obj (oL true 46 5 cCached dCached ((([] : List TCached) ++ v13) ++ ([(TCached.mk v8b y_40 r4)]))))], .n 5, .k [2, 5, 8, 17, 18]] (by kernel_rfl) (Obs.of (by kernel_rfl) (And.intro (nt g_14) (And.intro (nt g_17) (And.intro (le_build0 46 5 cCached dCached) (And.intro (And.intro g_39 (le_app 46 5 cCached dCached ([] : List TCached) v13)) (And.intro (erasureref30_Select.spec e_41) (And.intro (le_one 46 5 cCached dCached (TCached.mk v8b y_40 r4)) (And.intro g_42 (le_app 46 5 cCached dCached (([] : List TCached) ++ v13) ([(TCached.mk v8b y_40 r4)])))))))))) (erasureref30_Lookup.p3.run k _ _ _ _ _ r h)
theorem erasureref30_Lookup.run   {k : Nat} {t0 : TCache} {o1 : (List TCached)} {A2 : (List TEntry)} {r3 : TValue} {r4 : Int} {r : ((List TCached) × (List TEntry) × Int)} (h : erasureref30_Lookup k t0 o1 A2 r3 r4 = some r) : RunC Try.prog Try.f19 erasureref30_Lookup.t (erasureref30_Lookup.s t0 o1 A2 r3 r4) (.tup [.sref 0 46 5 (r.1).length, .p ((eL 2 cEntry dEntry r.2.1)), .p (.int .i64 r.2.2)]) [(oL true 46 5 cCached dCached (r.1))] := by
  unfold erasureref30_Lookup at h
  obtain ⟨y_1, e_2, h⟩ := bind_or h
  rcases ite_or h with ⟨g_3, h⟩ | ⟨g_3, h⟩
  · obtain rfl := Option.some.inj h
    exact RunC.out [.n 1, .r [(2, .obj (oL true 46 5 cCached dCached ([] : List TCached))), (3, .obj (oL true 36 2 cEntry dEntry ([] : List TEntry)))], .n 2, .r [(1, .call (.p (.bool y_1)) []), (3, .dec true)], .n 2, .r [(0, .obj (oL true 46 5 cCached dCached ([] : List TCached))), (1, .obj (oL true 36 2 cEntry dEntry ([] : List TEntry)))], .f 11] (by kernel_rfl) (Obs.of (by kernel_rfl) (And.intro (le_nil 46 5 cCached dCached) (And.intro (le_nil 36 2 cEntry dEntry) (And.intro (erasureref30_Valid.spec e_2) (And.intro g_3 (And.intro (le_nil 46 5 cCached dCached) (le_nil 36 2 cEntry dEntry)))))))
  · obtain ⟨y_4, e_5, h⟩ := bind_or h
    rcases ite_or h with ⟨g_6, h⟩ | ⟨g_6, h⟩
    · obtain rfl := Option.some.inj h
      exact RunC.out [.n 1, .r [(2, .obj (oL true 46 5 cCached dCached ([] : List TCached))), (3, .obj (oL true 36 2 cEntry dEntry ([] : List TEntry)))], .n 2, .r [(1, .call (.p (.bool y_1)) []), (3, .dec false), (5, .call (.p (.bool y_4)) []), (8, .dec true)], .n 2, .r [(0, .obj (oL true 46 5 cCached dCached ([] : List TCached))), (1, .obj (oL true 36 2 cEntry dEntry ([] : List TEntry)))], .f 11] (by kernel_rfl) (Obs.of (by kernel_rfl) (And.intro (le_nil 46 5 cCached dCached) (And.intro (le_nil 36 2 cEntry dEntry) (And.intro (erasureref30_Valid.spec e_2) (And.intro (nt g_3) (And.intro (erasureref06_Valid.spec e_5) (And.intro g_6 (And.intro (le_nil 46 5 cCached dCached) (le_nil 36 2 cEntry dEntry)))))))))
    · obtain ⟨y_7, e_8, h⟩ := bind_or h
      rcases ite_or h with ⟨g_9, h⟩ | ⟨g_9, h⟩
      · obtain rfl := Option.some.inj h
        exact RunC.out [.n 1, .r [(2, .obj (oL true 46 5 cCached dCached ([] : List TCached))), (3, .obj (oL true 36 2 cEntry dEntry ([] : List TEntry)))], .n 2, .r [(1, .call (.p (.bool y_1)) []), (3, .dec false), (5, .call (.p (.bool y_4)) []), (8, .dec false), (11, .call (.p (.bool y_7)) []), (13, .dec true)], .n 2, .r [(0, .obj (oL true 46 5 cCached dCached ([] : List TCached))), (1, .obj (oL true 36 2 cEntry dEntry ([] : List TEntry)))], .f 11] (by kernel_rfl) (Obs.of (by kernel_rfl) (And.intro (le_nil 46 5 cCached dCached) (And.intro (le_nil 36 2 cEntry dEntry) (And.intro (erasureref30_Valid.spec e_2) (And.intro (nt g_3) (And.intro (erasureref06_Valid.spec e_5) (And.intro (nt g_6) (And.intro (erasureref30_ranged.spec e_8) (And.intro g_9 (And.intro (le_nil 46 5 cCached dCached) (le_nil 36 2 cEntry dEntry)))))))))))
      · obtain ⟨y_10, e_11, h⟩ := bind_or h
        obtain ⟨y_12, e_13, h⟩ := bind_or h
        exact RunC.go [.n 1, .r [(2, .obj (oL true 46 5 cCached dCached ([] : List TCached))), (3, .obj (oL true 36 2 cEntry dEntry ([] : List TEntry)))], .n 2, .r [(1, .call (.p (.bool y_1)) []), (3, .dec false), (5, .call (.p (.bool y_4)) []), (8, .dec false), (11, .call (.p (.bool y_7)) []), (13, .dec false)], .n 3, .r [(1, .call (.agg ((cValue y_10).map .p)) [])], .n 1, .r [(3, .call (.sref 0 46 5 (y_12).length) [(oL true 46 5 cCached dCached y_12)])], .n 5, .k [2, 4, 5, 8, 13, 14]] (by kernel_rfl) (Obs.of (by kernel_rfl) (And.intro (le_nil 46 5 cCached dCached) (And.intro (le_nil 36 2 cEntry dEntry) (And.intro (erasureref30_Valid.spec e_2) (And.intro (nt g_3) (And.intro (erasureref06_Valid.spec e_5) (And.intro (nt g_6) (And.intro (erasureref30_ranged.spec e_8) (And.intro (nt g_9) (And.intro (erasureref01_Clean.spec e_11) (erasureref30_Expire.spec e_13))))))))))) (erasureref30_Lookup.p1.run k _ _ _ _ _ _ r h)
theorem erasureref30_Lookup.p3.mono   : ∀ (k k' : Nat) (A2 : (List TEntry)) (v18 : Int) (a5b : TCache) (v8b : TValue) (v17 : (List TCached)) (r : ((List TCached) × (List TEntry) × Int)), k ≤ k' → erasureref30_Lookup.p3 k A2 v18 a5b v8b v17 = some r → erasureref30_Lookup.p3 k' A2 v18 a5b v8b v17 = some r := by
  intro k
  induction k with
  | zero => intro k' A2 v18 a5b v8b v17 r hk h; simp [erasureref30_Lookup.p3] at h
  | succ k ih =>
    intro k' A2 v18 a5b v8b v17 r hk h
    obtain ⟨k', rfl⟩ : ∃ m, k' = m + 1 := ⟨k' - 1, by omega⟩
    replace hk := Nat.le_of_succ_le_succ hk
    rw [erasureref30_Lookup.p3] at h ⊢
    rcases ite_or h with ⟨g_29, h⟩ | ⟨g_29, h⟩
    · refine itp g_29 ?_
      obtain ⟨g_30, h⟩ := ite_some h
      refine itp g_30 ?_
      obtain ⟨g_31, h⟩ := ite_some h
      refine itp g_31 ?_
      obtain ⟨y_32, e_33, h⟩ := bind_or h
      refine bnd (erasureref01_Compare.mono _ _ _ _ _ hk e_33) ?_
      rcases ite_or h with ⟨g_34, h⟩ | ⟨g_34, h⟩
      · refine itp g_34 ?_
        exact ih _ _ _ _ _ _ r hk h
      · refine itn g_34 ?_
        obtain ⟨y_35, e_36, h⟩ := bind_or h
        refine bnd (erasureref30_Select.mono _ _ _ _ _ _ hk e_36) ?_
        exact h
    · refine itn g_29 ?_
      obtain ⟨y_37, e_38, h⟩ := bind_or h
      refine bnd (erasureref30_Select.mono _ _ _ _ _ _ hk e_38) ?_
      exact h
theorem erasureref30_Lookup.p2.mono   : ∀ (k k' : Nat) (A2 : (List TEntry)) (r4 : Int) (v15 : Int) (v16 : Int) (a5b : TCache) (v8b : TValue) (v13 : (List TCached)) (r : ((List TCached) × (List TEntry) × Int)), k ≤ k' → erasureref30_Lookup.p2 k A2 r4 v15 v16 a5b v8b v13 = some r → erasureref30_Lookup.p2 k' A2 r4 v15 v16 a5b v8b v13 = some r := by
  intro k
  induction k with
  | zero => intro k' A2 r4 v15 v16 a5b v8b v13 r hk h; simp [erasureref30_Lookup.p2] at h
  | succ k ih =>
    intro k' A2 r4 v15 v16 a5b v8b v13 r hk h
    obtain ⟨k', rfl⟩ : ∃ m, k' = m + 1 := ⟨k' - 1, by omega⟩
    replace hk := Nat.le_of_succ_le_succ hk
    rw [erasureref30_Lookup.p2] at h ⊢
    rcases ite_or h with ⟨g_18, h⟩ | ⟨g_18, h⟩
    · refine itp g_18 ?_
      obtain ⟨g_19, h⟩ := ite_some h
      refine itp g_19 ?_
      obtain ⟨g_20, h⟩ := ite_some h
      refine itp g_20 ?_
      rcases ite_or h with ⟨g_21, h⟩ | ⟨g_21, h⟩
      · refine itp g_21 ?_
        exact ih _ _ _ _ _ _ _ _ r hk h
      · refine itn g_21 ?_
        exact ih _ _ _ _ _ _ _ _ r hk h
    · refine itn g_18 ?_
      obtain ⟨g_22, h⟩ := ite_some h
      refine itp g_22 ?_
      obtain ⟨y_23, e_24, h⟩ := bind_or h
      refine bnd (erasureref30_without.mono _ _ _ _ _ hk e_24) ?_
      obtain ⟨g_25, h⟩ := ite_some h
      refine itp g_25 ?_
      obtain ⟨y_26, e_27, h⟩ := bind_or h
      refine bnd (erasureref30_Select.mono _ _ _ _ _ _ hk e_27) ?_
      obtain ⟨g_28, h⟩ := ite_some h
      refine itp g_28 ?_
      exact erasureref30_Lookup.p3.mono _ _ _ _ _ _ _ r hk h
theorem erasureref30_Lookup.p1.mono   : ∀ (k k' : Nat) (A2 : (List TEntry)) (r4 : Int) (v14 : Int) (a5b : TCache) (v8b : TValue) (v13 : (List TCached)) (r : ((List TCached) × (List TEntry) × Int)), k ≤ k' → erasureref30_Lookup.p1 k A2 r4 v14 a5b v8b v13 = some r → erasureref30_Lookup.p1 k' A2 r4 v14 a5b v8b v13 = some r := by
  intro k
  induction k with
  | zero => intro k' A2 r4 v14 a5b v8b v13 r hk h; simp [erasureref30_Lookup.p1] at h
  | succ k ih =>
    intro k' A2 r4 v14 a5b v8b v13 r hk h
    obtain ⟨k', rfl⟩ : ∃ m, k' = m + 1 := ⟨k' - 1, by omega⟩
    replace hk := Nat.le_of_succ_le_succ hk
    rw [erasureref30_Lookup.p1] at h ⊢
    rcases ite_or h with ⟨g_14, h⟩ | ⟨g_14, h⟩
    · refine itp g_14 ?_
      obtain ⟨g_15, h⟩ := ite_some h
      refine itp g_15 ?_
      rcases ite_or h with ⟨g_16, h⟩ | ⟨g_16, h⟩
      · refine itp g_16 ?_
        exact h
      · refine itn g_16 ?_
        exact ih _ _ _ _ _ _ _ r hk h
    · refine itn g_14 ?_
      rcases ite_or h with ⟨g_17, h⟩ | ⟨g_17, h⟩
      · refine itp g_17 ?_
        exact erasureref30_Lookup.p2.mono _ _ _ _ _ _ _ _ _ r hk h
      · refine itn g_17 ?_
        obtain ⟨g_39, h⟩ := ite_some h
        refine itp g_39 ?_
        obtain ⟨y_40, e_41, h⟩ := bind_or h
        refine bnd (erasureref30_Select.mono _ _ _ _ _ _ hk e_41) ?_
        obtain ⟨g_42, h⟩ := ite_some h
        refine itp g_42 ?_
        exact erasureref30_Lookup.p3.mono _ _ _ _ _ _ _ r hk h
theorem erasureref30_Lookup.mono   : ∀ (k k' : Nat) (t0 : TCache) (o1 : (List TCached)) (A2 : (List TEntry)) (r3 : TValue) (r4 : Int) (r : ((List TCached) × (List TEntry) × Int)), k ≤ k' → erasureref30_Lookup k t0 o1 A2 r3 r4 = some r → erasureref30_Lookup k' t0 o1 A2 r3 r4 = some r := by
  intro k k' t0 o1 A2 r3 r4 r hk h
  unfold erasureref30_Lookup at h ⊢
  obtain ⟨y_1, e_2, h⟩ := bind_or h
  refine bnd (erasureref30_Valid.mono _ _ _ _ hk e_2) ?_
  rcases ite_or h with ⟨g_3, h⟩ | ⟨g_3, h⟩
  · refine itp g_3 ?_
    exact h
  · refine itn g_3 ?_
    obtain ⟨y_4, e_5, h⟩ := bind_or h
    refine bnd (erasureref06_Valid.mono _ _ _ _ hk e_5) ?_
    rcases ite_or h with ⟨g_6, h⟩ | ⟨g_6, h⟩
    · refine itp g_6 ?_
      exact h
    · refine itn g_6 ?_
      obtain ⟨y_7, e_8, h⟩ := bind_or h
      refine bnd (erasureref30_ranged.mono _ _ _ _ _ hk e_8) ?_
      rcases ite_or h with ⟨g_9, h⟩ | ⟨g_9, h⟩
      · refine itp g_9 ?_
        exact h
      · refine itn g_9 ?_
        obtain ⟨y_10, e_11, h⟩ := bind_or h
        refine bnd (erasureref01_Clean.mono _ _ _ _ hk e_11) ?_
        obtain ⟨y_12, e_13, h⟩ := bind_or h
        refine bnd (erasureref30_Expire.mono _ _ _ _ _ _ hk e_13) ?_
        exact erasureref30_Lookup.p1.mono _ _ _ _ _ _ _ _ r hk h
theorem erasureref30_Lookup.spec {k : Nat} {t0 : TCache} {o1 : (List TCached)} {A2 : (List TEntry)} {r3 : TValue} {r4 : Int} {r : ((List TCached) × (List TEntry) × Int)} (h : erasureref30_Lookup k t0 o1 A2 r3 r4 = some r) : Spec Try.prog 19 [.agg ((cCache t0).map .p), .p (eL 5 cCached dCached o1), .p (eL 2 cEntry dEntry A2), .agg ((cValue r3).map .p), .p (.int .i64 r4)] (.tup [.sref 0 46 5 (r.1).length, .p ((eL 2 cEntry dEntry r.2.1)), .p (.int .i64 r.2.2)]) [(oL true 46 5 cCached dCached (r.1))] :=
  spec_of mix Try.func19 (body := bodyOf Try.f19) (by kernel_rfl) (by kernel_rfl) (erasureref30_Lookup.run h)
end Go.Proofs.YtjhnpaenhdbhpabV
set_option linter.unusedVariables false
set_option linter.unusedSimpArgs false
set_option maxRecDepth 100000
namespace Go.Proofs.YtjhnpaenhdbhpabV
open Go Go.RowKit
noncomputable def erasureref30_Same.p1  : Nat → (List TCached) → (List TCached) → Int → Option Bool
  | 0, _, _, _ => none
  | k + 1, a0, b1, i5 => if (decide (i5 < ((a0).length : Int))) = true then (if 0 ≤ i5 ∧ i5 < ((a0).length : Int) then (if 0 ≤ i5 ∧ i5 < ((b1).length : Int) then (if (!(((a0.getD i5.toNat dCached).f0.f0 == (b1.getD i5.toNat dCached).f0.f0) && (((a0.getD i5.toNat dCached).f0.f1 == (b1.getD i5.toNat dCached).f0.f1) && ((((a0.getD i5.toNat dCached).f0.f2).data.toList == ((b1.getD i5.toNat dCached).f0.f2).data.toList) && true)))) = true then (some false) else (if ((a0.getD i5.toNat dCached).f2 != (b1.getD i5.toNat dCached).f2) = true then (some false) else ((erasureref26_SameBag k ((a0.getD i5.toNat dCached).f1) ((b1.getD i5.toNat dCached).f1)).bind fun y_7 => (if (!y_7) = true then (some false) else (erasureref30_Same.p1 k a0 b1 (IntKind.i64.wrap (i5 + 1))))))) else none) else none) else (some true)
noncomputable def erasureref30_Same  (k : Nat) (a0 : (List TCached)) (b1 : (List TCached)) : Option Bool := if (((a0).length : Int) != ((b1).length : Int)) = true then (some false) else (erasureref30_Same.p1 k a0 b1 0)
noncomputable def erasureref30_Same.t : List Item := [.code (bodyOf Try.f20)]
noncomputable def erasureref30_Same.s (a0 : (List TCached)) (b1 : (List TCached)) : St := ⟨frOf Try.f20.ntmps 0 [(0, .p (eL 5 cCached dCached a0)), (1, .p (eL 5 cCached dCached b1))], []⟩
noncomputable def erasureref30_Same.p1.t : List Item := nav 12 [false] erasureref30_Same.t
noncomputable def erasureref30_Same.p1.s (a0 : (List TCached)) (b1 : (List TCached)) (i5 : Int) : St := ⟨frOf Try.f20.ntmps 0 [(0, .p (eL 5 cCached dCached a0)), (1, .p (eL 5 cCached dCached b1)), (5, .p (.int .i64 i5))], []⟩
theorem erasureref30_Same.p1.run   : ∀ (k : Nat) (a0 : (List TCached)) (b1 : (List TCached)) (i5 : Int) (r : Bool), erasureref30_Same.p1 k a0 b1 i5 = some r → RunC Try.prog Try.f20 erasureref30_Same.p1.t (erasureref30_Same.p1.s a0 b1 i5) (.p (.bool r)) [] := by
  intro k
  induction k with
  | zero => intro a0 b1 i5 r h; simp [erasureref30_Same.p1] at h
  | succ k ih =>
    intro a0 b1 i5 r h
    rw [erasureref30_Same.p1] at h
    rcases ite_or h with ⟨g_2, h⟩ | ⟨g_2, h⟩
    · obtain ⟨g_3, h⟩ := ite_some h
      obtain ⟨g_4, h⟩ := ite_some h
      rcases ite_or h with ⟨g_5, h⟩ | ⟨g_5, h⟩
      · obtain rfl := Option.some.inj h
        exact RunC.out [.n 2, .r [(3, .dec true)], .n 5, .r [(11, .dec true)], .n 3] (by kernel_rfl) (Obs.of (by kernel_rfl) (And.intro g_2 (And.intro g_3 (And.intro g_4 g_5))))
      · rcases ite_or h with ⟨g_6, h⟩ | ⟨g_6, h⟩
        · obtain rfl := Option.some.inj h
          exact RunC.out [.n 2, .r [(3, .dec true)], .n 5, .r [(11, .dec false), (24, .dec true)], .n 3] (by kernel_rfl) (Obs.of (by kernel_rfl) (And.intro g_2 (And.intro g_3 (And.intro g_4 (And.intro (nt g_5) (And.intro g_3 (And.intro g_4 g_6)))))))
        · obtain ⟨y_7, e_8, h⟩ := bind_or h
          rcases ite_or h with ⟨g_9, h⟩ | ⟨g_9, h⟩
          · obtain rfl := Option.some.inj h
            exact RunC.out [.n 2, .r [(3, .dec true)], .n 5, .r [(11, .dec false), (24, .dec false), (35, .call (.p (.bool y_7)) []), (37, .dec true)], .n 3] (by kernel_rfl) (Obs.of (by kernel_rfl) (And.intro g_2 (And.intro g_3 (And.intro g_4 (And.intro (nt g_5) (And.intro g_3 (And.intro g_4 (And.intro (nt g_6) (And.intro g_3 (And.intro g_4 (And.intro (erasureref26_SameBag.spec e_8) g_9)))))))))))
          · exact RunC.go [.n 2, .r [(3, .dec true)], .n 5, .r [(11, .dec false), (24, .dec false), (35, .call (.p (.bool y_7)) []), (37, .dec false)], .n 5, .k [0, 1, 5]] (by kernel_rfl) (Obs.of (by kernel_rfl) (And.intro g_2 (And.intro g_3 (And.intro g_4 (And.intro (nt g_5) (And.intro g_3 (And.intro g_4 (And.intro (nt g_6) (And.intro g_3 (And.intro g_4 (And.intro (erasureref26_SameBag.spec e_8) (nt g_9)))))))))))) (ih _ _ _ r h)
    · obtain rfl := Option.some.inj h
      exact RunC.out [.n 2, .r [(3, .dec false)], .n 4] (by kernel_rfl) (Obs.of (by kernel_rfl) (nt g_2))
theorem erasureref30_Same.run   {k : Nat} {a0 : (List TCached)} {b1 : (List TCached)} {r : Bool} (h : erasureref30_Same k a0 b1 = some r) : RunC Try.prog Try.f20 erasureref30_Same.t (erasureref30_Same.s a0 b1) (.p (.bool r)) [] := by
  unfold erasureref30_Same at h
  rcases ite_or h with ⟨g_1, h⟩ | ⟨g_1, h⟩
  · obtain rfl := Option.some.inj h
    exact RunC.out [.n 4, .r [(4, .dec true)], .n 3] (by kernel_rfl) (Obs.of (by kernel_rfl) g_1)
  · exact RunC.go [.n 4, .r [(4, .dec false)], .n 7, .k [0, 1, 5]] (by kernel_rfl) (Obs.of (by kernel_rfl) (nt g_1)) (erasureref30_Same.p1.run k _ _ _ r h)
theorem erasureref30_Same.p1.mono   : ∀ (k k' : Nat) (a0 : (List TCached)) (b1 : (List TCached)) (i5 : Int) (r : Bool), k ≤ k' → erasureref30_Same.p1 k a0 b1 i5 = some r → erasureref30_Same.p1 k' a0 b1 i5 = some r := by
  intro k
  induction k with
  | zero => intro k' a0 b1 i5 r hk h; simp [erasureref30_Same.p1] at h
  | succ k ih =>
    intro k' a0 b1 i5 r hk h
    obtain ⟨k', rfl⟩ : ∃ m, k' = m + 1 := ⟨k' - 1, by omega⟩
    replace hk := Nat.le_of_succ_le_succ hk
    rw [erasureref30_Same.p1] at h ⊢
    rcases ite_or h with ⟨g_2, h⟩ | ⟨g_2, h⟩
    · refine itp g_2 ?_
      obtain ⟨g_3, h⟩ := ite_some h
      refine itp g_3 ?_
      obtain ⟨g_4, h⟩ := ite_some h
      refine itp g_4 ?_
      rcases ite_or h with ⟨g_5, h⟩ | ⟨g_5, h⟩
      · refine itp g_5 ?_
        exact h
      · refine itn g_5 ?_
        rcases ite_or h with ⟨g_6, h⟩ | ⟨g_6, h⟩
        · refine itp g_6 ?_
          exact h
        · refine itn g_6 ?_
          obtain ⟨y_7, e_8, h⟩ := bind_or h
          refine bnd (erasureref26_SameBag.mono _ _ _ _ _ hk e_8) ?_
          rcases ite_or h with ⟨g_9, h⟩ | ⟨g_9, h⟩
          · refine itp g_9 ?_
            exact h
          · refine itn g_9 ?_
            exact ih _ _ _ _ r hk h
    · refine itn g_2 ?_
      exact h
theorem erasureref30_Same.mono   : ∀ (k k' : Nat) (a0 : (List TCached)) (b1 : (List TCached)) (r : Bool), k ≤ k' → erasureref30_Same k a0 b1 = some r → erasureref30_Same k' a0 b1 = some r := by
  intro k k' a0 b1 r hk h
  unfold erasureref30_Same at h ⊢
  rcases ite_or h with ⟨g_1, h⟩ | ⟨g_1, h⟩
  · refine itp g_1 ?_
    exact h
  · refine itn g_1 ?_
    exact erasureref30_Same.p1.mono _ _ _ _ _ r hk h
theorem erasureref30_Same.spec {k : Nat} {a0 : (List TCached)} {b1 : (List TCached)} {r : Bool} (h : erasureref30_Same k a0 b1 = some r) : Spec Try.prog 20 [.p (eL 5 cCached dCached a0), .p (eL 5 cCached dCached b1)] (.p (.bool r)) [] :=
  spec_of mix Try.func20 (body := bodyOf Try.f20) (by kernel_rfl) (by kernel_rfl) (erasureref30_Same.run h)
end Go.Proofs.YtjhnpaenhdbhpabV
set_option linter.unusedVariables false
set_option linter.unusedSimpArgs false
set_option maxRecDepth 100000
namespace Go.Proofs.YtjhnpaenhdbhpabV
open Go Go.RowKit
noncomputable def slices_Equal_api_Value.p1  : Nat → (List TValue) → (List TValue) → Int → Int → Option Bool
  | 0, _, _, _, _ => none
  | k + 1, s10, s21, v12, v13 => if (decide (v13 < v12)) = true then (if 0 ≤ v13 ∧ v13 < ((s10).length : Int) then (if 0 ≤ v13 ∧ v13 < ((s21).length : Int) then (if (!(((s10.getD v13.toNat dValue).f0 == (s21.getD v13.toNat dValue).f0) && (((s10.getD v13.toNat dValue).f1 == (s21.getD v13.toNat dValue).f1) && ((((s10.getD v13.toNat dValue).f2).data.toList == ((s21.getD v13.toNat dValue).f2).data.toList) && true)))) = true then (some false) else (slices_Equal_api_Value.p1 k s10 s21 v12 (IntKind.i64.wrap (v13 + 1)))) else none) else none) else (some true)
noncomputable def slices_Equal_api_Value  (k : Nat) (s10 : (List TValue)) (s21 : (List TValue)) : Option Bool := if (((s10).length : Int) != ((s21).length : Int)) = true then (some false) else (slices_Equal_api_Value.p1 k s10 s21 ((s10).length : Int) 0)
noncomputable def slices_Equal_api_Value.t : List Item := [.code (bodyOf Try.f66)]
noncomputable def slices_Equal_api_Value.s (s10 : (List TValue)) (s21 : (List TValue)) : St := ⟨frOf Try.f66.ntmps 0 [(0, .p (eL 3 cValue dValue s10)), (1, .p (eL 3 cValue dValue s21))], []⟩
noncomputable def slices_Equal_api_Value.p1.t : List Item := nav 12 [false] slices_Equal_api_Value.t
noncomputable def slices_Equal_api_Value.p1.s (s10 : (List TValue)) (s21 : (List TValue)) (v12 : Int) (v13 : Int) : St := ⟨frOf Try.f66.ntmps 0 [(0, .p (eL 3 cValue dValue s10)), (1, .p (eL 3 cValue dValue s21)), (12, .p (.int .i64 v12)), (13, .p (.int .i64 v13))], []⟩
theorem slices_Equal_api_Value.p1.run   : ∀ (k : Nat) (s10 : (List TValue)) (s21 : (List TValue)) (v12 : Int) (v13 : Int) (r : Bool), slices_Equal_api_Value.p1 k s10 s21 v12 v13 = some r → RunC Try.prog Try.f66 slices_Equal_api_Value.p1.t (slices_Equal_api_Value.p1.s s10 s21 v12 v13) (.p (.bool r)) [] := by
  intro k
  induction k with
  | zero => intro s10 s21 v12 v13 r h; simp [slices_Equal_api_Value.p1] at h
  | succ k ih =>
    intro s10 s21 v12 v13 r h
    rw [slices_Equal_api_Value.p1] at h
    rcases ite_or h with ⟨g_2, h⟩ | ⟨g_2, h⟩
    · obtain ⟨g_3, h⟩ := ite_some h
      obtain ⟨g_4, h⟩ := ite_some h
      rcases ite_or h with ⟨g_5, h⟩ | ⟨g_5, h⟩
      · obtain rfl := Option.some.inj h
        exact RunC.out [.n 1, .r [(0, .dec true)], .n 8, .r [(8, .dec true)], .n 3] (by kernel_rfl) (Obs.of (by kernel_rfl) (And.intro g_2 (And.intro g_3 (And.intro g_4 g_5))))
      · exact RunC.go [.n 1, .r [(0, .dec true)], .n 8, .r [(8, .dec false)], .n 5, .k [0, 1, 12, 13]] (by kernel_rfl) (Obs.of (by kernel_rfl) (And.intro g_2 (And.intro g_3 (And.intro g_4 (nt g_5))))) (ih _ _ _ _ r h)
    · obtain rfl := Option.some.inj h
      exact RunC.out [.n 1, .r [(0, .dec false)], .n 5] (by kernel_rfl) (Obs.of (by kernel_rfl) (nt g_2))
theorem slices_Equal_api_Value.run   {k : Nat} {s10 : (List TValue)} {s21 : (List TValue)} {r : Bool} (h : slices_Equal_api_Value k s10 s21 = some r) : RunC Try.prog Try.f66 slices_Equal_api_Value.t (slices_Equal_api_Value.s s10 s21) (.p (.bool r)) [] := by
  unfold slices_Equal_api_Value at h
  rcases ite_or h with ⟨g_1, h⟩ | ⟨g_1, h⟩
  · obtain rfl := Option.some.inj h
    exact RunC.out [.n 4, .r [(4, .dec true)], .n 3] (by kernel_rfl) (Obs.of (by kernel_rfl) g_1)
  · exact RunC.go [.n 4, .r [(4, .dec false)], .n 7, .k [0, 1, 12, 13]] (by kernel_rfl) (Obs.of (by kernel_rfl) (nt g_1)) (slices_Equal_api_Value.p1.run k _ _ _ _ r h)
theorem slices_Equal_api_Value.p1.mono   : ∀ (k k' : Nat) (s10 : (List TValue)) (s21 : (List TValue)) (v12 : Int) (v13 : Int) (r : Bool), k ≤ k' → slices_Equal_api_Value.p1 k s10 s21 v12 v13 = some r → slices_Equal_api_Value.p1 k' s10 s21 v12 v13 = some r := by
  intro k
  induction k with
  | zero => intro k' s10 s21 v12 v13 r hk h; simp [slices_Equal_api_Value.p1] at h
  | succ k ih =>
    intro k' s10 s21 v12 v13 r hk h
    obtain ⟨k', rfl⟩ : ∃ m, k' = m + 1 := ⟨k' - 1, by omega⟩
    replace hk := Nat.le_of_succ_le_succ hk
    rw [slices_Equal_api_Value.p1] at h ⊢
    rcases ite_or h with ⟨g_2, h⟩ | ⟨g_2, h⟩
    · refine itp g_2 ?_
      obtain ⟨g_3, h⟩ := ite_some h
      refine itp g_3 ?_
      obtain ⟨g_4, h⟩ := ite_some h
      refine itp g_4 ?_
      rcases ite_or h with ⟨g_5, h⟩ | ⟨g_5, h⟩
      · refine itp g_5 ?_
        exact h
      · refine itn g_5 ?_
        exact ih _ _ _ _ _ r hk h
    · refine itn g_2 ?_
      exact h
theorem slices_Equal_api_Value.mono   : ∀ (k k' : Nat) (s10 : (List TValue)) (s21 : (List TValue)) (r : Bool), k ≤ k' → slices_Equal_api_Value k s10 s21 = some r → slices_Equal_api_Value k' s10 s21 = some r := by
  intro k k' s10 s21 r hk h
  unfold slices_Equal_api_Value at h ⊢
  rcases ite_or h with ⟨g_1, h⟩ | ⟨g_1, h⟩
  · refine itp g_1 ?_
    exact h
  · refine itn g_1 ?_
    exact slices_Equal_api_Value.p1.mono _ _ _ _ _ _ r hk h
theorem slices_Equal_api_Value.spec {k : Nat} {s10 : (List TValue)} {s21 : (List TValue)} {r : Bool} (h : slices_Equal_api_Value k s10 s21 = some r) : Spec Try.prog 66 [.p (eL 3 cValue dValue s10), .p (eL 3 cValue dValue s21)] (.p (.bool r)) [] :=
  spec_of mix Try.func66 (body := bodyOf Try.f66) (by kernel_rfl) (by kernel_rfl) (slices_Equal_api_Value.run h)
end Go.Proofs.YtjhnpaenhdbhpabV
set_option linter.unusedVariables false
set_option linter.unusedSimpArgs false
set_option maxRecDepth 100000
namespace Go.Proofs.YtjhnpaenhdbhpabV
open Go Go.RowKit
noncomputable def cache_same.p1  : Nat → (List TEntry) → (List TEntry) → Int → Option Bool
  | 0, _, _, _ => none
  | k + 1, a0, b1, i5 => if (decide (i5 < ((a0).length : Int))) = true then (if 0 ≤ i5 ∧ i5 < ((a0).length : Int) then (if 0 ≤ i5 ∧ i5 < ((b1).length : Int) then (if ((a0.getD i5.toNat dEntry).f1 != (b1.getD i5.toNat dEntry).f1) = true then (some false) else ((slices_Equal_api_Value k ((a0.getD i5.toNat dEntry).f0) ((b1.getD i5.toNat dEntry).f0)).bind fun y_6 => (if (!y_6) = true then (some false) else (cache_same.p1 k a0 b1 (IntKind.i64.wrap (i5 + 1)))))) else none) else none) else (some true)
noncomputable def cache_same  (k : Nat) (a0 : (List TEntry)) (b1 : (List TEntry)) : Option Bool := if (((a0).length : Int) != ((b1).length : Int)) = true then (some false) else (cache_same.p1 k a0 b1 0)
noncomputable def cache_same.t : List Item := [.code (bodyOf Try.f52)]
noncomputable def cache_same.s (a0 : (List TEntry)) (b1 : (List TEntry)) : St := ⟨frOf Try.f52.ntmps 0 [(0, .p (eL 2 cEntry dEntry a0)), (1, .p (eL 2 cEntry dEntry b1))], []⟩
noncomputable def cache_same.p1.t : List Item := nav 12 [false] cache_same.t
noncomputable def cache_same.p1.s (a0 : (List TEntry)) (b1 : (List TEntry)) (i5 : Int) : St := ⟨frOf Try.f52.ntmps 0 [(0, .p (eL 2 cEntry dEntry a0)), (1, .p (eL 2 cEntry dEntry b1)), (5, .p (.int .i64 i5))], []⟩
theorem cache_same.p1.run   : ∀ (k : Nat) (a0 : (List TEntry)) (b1 : (List TEntry)) (i5 : Int) (r : Bool), cache_same.p1 k a0 b1 i5 = some r → RunC Try.prog Try.f52 cache_same.p1.t (cache_same.p1.s a0 b1 i5) (.p (.bool r)) [] := by
  intro k
  induction k with
  | zero => intro a0 b1 i5 r h; simp [cache_same.p1] at h
  | succ k ih =>
    intro a0 b1 i5 r h
    rw [cache_same.p1] at h
    rcases ite_or h with ⟨g_2, h⟩ | ⟨g_2, h⟩
    · obtain ⟨g_3, h⟩ := ite_some h
      obtain ⟨g_4, h⟩ := ite_some h
      rcases ite_or h with ⟨g_5, h⟩ | ⟨g_5, h⟩
      · obtain rfl := Option.some.inj h
        exact RunC.out [.n 2, .r [(3, .dec true)], .n 5, .r [(11, .dec true)], .n 3] (by kernel_rfl) (Obs.of (by kernel_rfl) (And.intro g_2 (And.intro g_3 (And.intro g_4 g_5))))
      · obtain ⟨y_6, e_7, h⟩ := bind_or h
        rcases ite_or h with ⟨g_8, h⟩ | ⟨g_8, h⟩
        · obtain rfl := Option.some.inj h
          exact RunC.out [.n 2, .r [(3, .dec true)], .n 5, .r [(11, .dec false), (22, .call (.p (.bool y_6)) []), (24, .dec true)], .n 3] (by kernel_rfl) (Obs.of (by kernel_rfl) (And.intro g_2 (And.intro g_3 (And.intro g_4 (And.intro (nt g_5) (And.intro g_3 (And.intro g_4 (And.intro (slices_Equal_api_Value.spec e_7) g_8))))))))
        · exact RunC.go [.n 2, .r [(3, .dec true)], .n 5, .r [(11, .dec false), (22, .call (.p (.bool y_6)) []), (24, .dec false)], .n 5, .k [0, 1, 5]] (by kernel_rfl) (Obs.of (by kernel_rfl) (And.intro g_2 (And.intro g_3 (And.intro g_4 (And.intro (nt g_5) (And.intro g_3 (And.intro g_4 (And.intro (slices_Equal_api_Value.spec e_7) (nt g_8))))))))) (ih _ _ _ r h)
    · obtain rfl := Option.some.inj h
      exact RunC.out [.n 2, .r [(3, .dec false)], .n 4] (by kernel_rfl) (Obs.of (by kernel_rfl) (nt g_2))
theorem cache_same.run   {k : Nat} {a0 : (List TEntry)} {b1 : (List TEntry)} {r : Bool} (h : cache_same k a0 b1 = some r) : RunC Try.prog Try.f52 cache_same.t (cache_same.s a0 b1) (.p (.bool r)) [] := by
  unfold cache_same at h
  rcases ite_or h with ⟨g_1, h⟩ | ⟨g_1, h⟩
  · obtain rfl := Option.some.inj h
    exact RunC.out [.n 4, .r [(4, .dec true)], .n 3] (by kernel_rfl) (Obs.of (by kernel_rfl) g_1)
  · exact RunC.go [.n 4, .r [(4, .dec false)], .n 7, .k [0, 1, 5]] (by kernel_rfl) (Obs.of (by kernel_rfl) (nt g_1)) (cache_same.p1.run k _ _ _ r h)
theorem cache_same.p1.mono   : ∀ (k k' : Nat) (a0 : (List TEntry)) (b1 : (List TEntry)) (i5 : Int) (r : Bool), k ≤ k' → cache_same.p1 k a0 b1 i5 = some r → cache_same.p1 k' a0 b1 i5 = some r := by
  intro k
  induction k with
  | zero => intro k' a0 b1 i5 r hk h; simp [cache_same.p1] at h
  | succ k ih =>
    intro k' a0 b1 i5 r hk h
    obtain ⟨k', rfl⟩ : ∃ m, k' = m + 1 := ⟨k' - 1, by omega⟩
    replace hk := Nat.le_of_succ_le_succ hk
    rw [cache_same.p1] at h ⊢
    rcases ite_or h with ⟨g_2, h⟩ | ⟨g_2, h⟩
    · refine itp g_2 ?_
      obtain ⟨g_3, h⟩ := ite_some h
      refine itp g_3 ?_
      obtain ⟨g_4, h⟩ := ite_some h
      refine itp g_4 ?_
      rcases ite_or h with ⟨g_5, h⟩ | ⟨g_5, h⟩
      · refine itp g_5 ?_
        exact h
      · refine itn g_5 ?_
        obtain ⟨y_6, e_7, h⟩ := bind_or h
        refine bnd (slices_Equal_api_Value.mono _ _ _ _ _ hk e_7) ?_
        rcases ite_or h with ⟨g_8, h⟩ | ⟨g_8, h⟩
        · refine itp g_8 ?_
          exact h
        · refine itn g_8 ?_
          exact ih _ _ _ _ r hk h
    · refine itn g_2 ?_
      exact h
theorem cache_same.mono   : ∀ (k k' : Nat) (a0 : (List TEntry)) (b1 : (List TEntry)) (r : Bool), k ≤ k' → cache_same k a0 b1 = some r → cache_same k' a0 b1 = some r := by
  intro k k' a0 b1 r hk h
  unfold cache_same at h ⊢
  rcases ite_or h with ⟨g_1, h⟩ | ⟨g_1, h⟩
  · refine itp g_1 ?_
    exact h
  · refine itn g_1 ?_
    exact cache_same.p1.mono _ _ _ _ _ r hk h
theorem cache_same.spec {k : Nat} {a0 : (List TEntry)} {b1 : (List TEntry)} {r : Bool} (h : cache_same k a0 b1 = some r) : Spec Try.prog 52 [.p (eL 2 cEntry dEntry a0), .p (eL 2 cEntry dEntry b1)] (.p (.bool r)) [] :=
  spec_of mix Try.func52 (body := bodyOf Try.f52) (by kernel_rfl) (by kernel_rfl) (cache_same.run h)
end Go.Proofs.YtjhnpaenhdbhpabV
set_option linter.unusedVariables false
set_option linter.unusedSimpArgs false
set_option maxRecDepth 100000
namespace Go.Proofs.YtjhnpaenhdbhpabV
open Go Go.RowKit
noncomputable def cache_Fresh.p1  : Nat → (List TCached) → (List TEntry) → Int → TCache → Option Bool
  | 0, _, _, _, _ => none
  | k + 1, s1, rows2, i7, c3b => if (decide (i7 < ((s1).length : Int))) = true then (if 0 ≤ i7 ∧ i7 < ((s1).length : Int) then ((cache_Select k rows2 c3b.f2 ((s1.getD i7.toNat dCached).f0)).bind fun y_9 => ((cache_same k ((s1.getD i7.toNat dCached).f1) y_9).bind fun y_11 => (if (!y_11) = true then (some false) else (cache_Fresh.p1 k s1 rows2 (IntKind.i64.wrap (i7 + 1)) c3b)))) else none) else (some true)
noncomputable def cache_Fresh  (k : Nat) (c0 : TCache) (s1 : (List TCached)) (rows2 : (List TEntry)) : Option Bool := (cache_Valid k s1).bind fun y_1 => (if (!y_1) = true then (some false) else ((bag_Valid k rows2).bind fun y_4 => (if (!y_4) = true then (some false) else (cache_Fresh.p1 k s1 rows2 0 c0))))
noncomputable def cache_Fresh.t : List Item := [.code (bodyOf Try.f28)]
noncomputable def cache_Fresh.s (c0 : TCache) (s1 : (List TCached)) (rows2 : (List TEntry)) : St := ⟨frOf Try.f28.ntmps 0 [(0, .agg ((cCache c0).map .p)), (1, .p (eL 5 cCached dCached s1)), (2, .p (eL 2 cEntry dEntry rows2))], []⟩
noncomputable def cache_Fresh.p1.t : List Item := nav 12 [false] cache_Fresh.t
noncomputable def cache_Fresh.p1.s (s1 : (List TCached)) (rows2 : (List TEntry)) (i7 : Int) (c3b : TCache) : St := ⟨frOf Try.f28.ntmps 0 [(1, .p (eL 5 cCached dCached s1)), (2, .p (eL 2 cEntry dEntry rows2)), (3, .ptr 0 0 0), (7, .p (.int .i64 i7))], [.box ((cCache c3b).map .p)]⟩
theorem cache_Fresh.p1.run   : ∀ (k : Nat) (s1 : (List TCached)) (rows2 : (List TEntry)) (i7 : Int) (c3b : TCache) (r : Bool), cache_Fresh.p1 k s1 rows2 i7 c3b = some r → RunC Try.prog Try.f28 cache_Fresh.p1.t (cache_Fresh.p1.s s1 rows2 i7 c3b) (.p (.bool r)) [] := by
  intro k
  induction k with
  | zero => intro s1 rows2 i7 c3b r h; simp [cache_Fresh.p1] at h
  | succ k ih =>
    intro s1 rows2 i7 c3b r h
    rw [cache_Fresh.p1] at h
    rcases ite_or h with ⟨g_7, h⟩ | ⟨g_7, h⟩
    · obtain ⟨g_8, h⟩ := ite_some h
      obtain ⟨y_9, e_10, h⟩ := bind_or h
      obtain ⟨y_11, e_12, h⟩ := bind_or h
      rcases ite_or h with ⟨g_13, h⟩ | ⟨g_13, h⟩
      · obtain rfl := Option.some.inj h
        exact RunC.out [.n 2, .r [(3, .dec true)], .n 5, .r [(13, .call (.sref 0 36 2 (y_9).length) [(oL true 36 2 cEntry dEntry y_9)]), (14, .call (.p (.bool y_11)) []), (15, .dec true)], .n 3] (by kernel_rfl) (Obs.of (by kernel_rfl) (And.intro g_7 (And.intro g_8 (And.intro g_8 (And.intro (cache_Select.spec e_10) (And.intro (cache_same.spec e_12) g_13))))))
      · exact RunC.go [.n 2, .r [(3, .dec true)], .n 5, .r [(13, .call (.sref 0 36 2 (y_9).length) [(oL true 36 2 cEntry dEntry y_9)]), (14, .call (.p (.bool y_11)) []), (15, .dec false)], .n 5, .k [1, 2, 3, 7]] (by kernel_rfl) (Obs.of (by kernel_rfl) (And.intro g_7 (And.intro g_8 (And.intro g_8 (And.intro (cache_Select.spec e_10) (And.intro (cache_same.spec e_12) (nt g_13))))))) (ih _ _ _ _ r h)
    · obtain rfl := Option.some.inj h
      exact RunC.out [.n 2, .r [(3, .dec false)], .n 4] (by kernel_rfl) (Obs.of (by kernel_rfl) (nt g_7))
theorem cache_Fresh.run   {k : Nat} {c0 : TCache} {s1 : (List TCached)} {rows2 : (List TEntry)} {r : Bool} (h : cache_Fresh k c0 s1 rows2 = some r) : RunC Try.prog Try.f28 cache_Fresh.t (cache_Fresh.s c0 s1 rows2) (.p (.bool r)) [] := by
  unfold cache_Fresh at h
  obtain ⟨y_1, e_2, h⟩ := bind_or h
  rcases ite_or h with ⟨g_3, h⟩ | ⟨g_3, h⟩
  · obtain rfl := Option.some.inj h
    exact RunC.out [.n 4, .r [(1, .call (.p (.bool y_1)) []), (3, .dec true)], .n 3] (by kernel_rfl) (Obs.of (by kernel_rfl) (And.intro (cache_Valid.spec e_2) g_3))
  · obtain ⟨y_4, e_5, h⟩ := bind_or h
    rcases ite_or h with ⟨g_6, h⟩ | ⟨g_6, h⟩
    · obtain rfl := Option.some.inj h
      exact RunC.out [.n 4, .r [(1, .call (.p (.bool y_1)) []), (3, .dec false), (5, .call (.p (.bool y_4)) []), (7, .dec true)], .n 3] (by kernel_rfl) (Obs.of (by kernel_rfl) (And.intro (cache_Valid.spec e_2) (And.intro (nt g_3) (And.intro (bag_Valid.spec e_5) g_6))))
    · exact RunC.go [.n 4, .r [(1, .call (.p (.bool y_1)) []), (3, .dec false), (5, .call (.p (.bool y_4)) []), (7, .dec false)], .n 7, .k [1, 2, 3, 7]] (by kernel_rfl) (Obs.of (by kernel_rfl) (And.intro (cache_Valid.spec e_2) (And.intro (nt g_3) (And.intro (bag_Valid.spec e_5) (nt g_6))))) (cache_Fresh.p1.run k _ _ _ _ r h)
theorem cache_Fresh.p1.mono   : ∀ (k k' : Nat) (s1 : (List TCached)) (rows2 : (List TEntry)) (i7 : Int) (c3b : TCache) (r : Bool), k ≤ k' → cache_Fresh.p1 k s1 rows2 i7 c3b = some r → cache_Fresh.p1 k' s1 rows2 i7 c3b = some r := by
  intro k
  induction k with
  | zero => intro k' s1 rows2 i7 c3b r hk h; simp [cache_Fresh.p1] at h
  | succ k ih =>
    intro k' s1 rows2 i7 c3b r hk h
    obtain ⟨k', rfl⟩ : ∃ m, k' = m + 1 := ⟨k' - 1, by omega⟩
    replace hk := Nat.le_of_succ_le_succ hk
    rw [cache_Fresh.p1] at h ⊢
    rcases ite_or h with ⟨g_7, h⟩ | ⟨g_7, h⟩
    · refine itp g_7 ?_
      obtain ⟨g_8, h⟩ := ite_some h
      refine itp g_8 ?_
      obtain ⟨y_9, e_10, h⟩ := bind_or h
      refine bnd (cache_Select.mono _ _ _ _ _ _ hk e_10) ?_
      obtain ⟨y_11, e_12, h⟩ := bind_or h
      refine bnd (cache_same.mono _ _ _ _ _ hk e_12) ?_
      rcases ite_or h with ⟨g_13, h⟩ | ⟨g_13, h⟩
      · refine itp g_13 ?_
        exact h
      · refine itn g_13 ?_
        exact ih _ _ _ _ _ r hk h
    · refine itn g_7 ?_
      exact h
theorem cache_Fresh.mono   : ∀ (k k' : Nat) (c0 : TCache) (s1 : (List TCached)) (rows2 : (List TEntry)) (r : Bool), k ≤ k' → cache_Fresh k c0 s1 rows2 = some r → cache_Fresh k' c0 s1 rows2 = some r := by
  intro k k' c0 s1 rows2 r hk h
  unfold cache_Fresh at h ⊢
  obtain ⟨y_1, e_2, h⟩ := bind_or h
  refine bnd (cache_Valid.mono _ _ _ _ hk e_2) ?_
  rcases ite_or h with ⟨g_3, h⟩ | ⟨g_3, h⟩
  · refine itp g_3 ?_
    exact h
  · refine itn g_3 ?_
    obtain ⟨y_4, e_5, h⟩ := bind_or h
    refine bnd (bag_Valid.mono _ _ _ _ hk e_5) ?_
    rcases ite_or h with ⟨g_6, h⟩ | ⟨g_6, h⟩
    · refine itp g_6 ?_
      exact h
    · refine itn g_6 ?_
      exact cache_Fresh.p1.mono _ _ _ _ _ _ r hk h
theorem cache_Fresh.spec {k : Nat} {c0 : TCache} {s1 : (List TCached)} {rows2 : (List TEntry)} {r : Bool} (h : cache_Fresh k c0 s1 rows2 = some r) : Spec Try.prog 28 [.agg ((cCache c0).map .p), .p (eL 5 cCached dCached s1), .p (eL 2 cEntry dEntry rows2)] (.p (.bool r)) [] :=
  spec_of mix Try.func28 (body := bodyOf Try.f28) (by kernel_rfl) (by kernel_rfl) (cache_Fresh.run h)
end Go.Proofs.YtjhnpaenhdbhpabV
set_option linter.unusedVariables false
set_option linter.unusedSimpArgs false
set_option maxRecDepth 100000
namespace Go.Proofs.YtjhnpaenhdbhpabV
open Go Go.RowKit
noncomputable def erasureref30_Fresh.p1  : Nat → (List TCached) → (List TEntry) → Int → TCache → Option Bool
  | 0, _, _, _, _ => none
  | k + 1, s1, rows2, i7, c3b => if (decide (i7 < ((s1).length : Int))) = true then (if 0 ≤ i7 ∧ i7 < ((s1).length : Int) then ((erasureref30_Select k rows2 c3b.f2 ((s1.getD i7.toNat dCached).f0)).bind fun y_9 => ((erasureref26_SameBag k ((s1.getD i7.toNat dCached).f1) y_9).bind fun y_11 => (if (!y_11) = true then (some false) else (erasureref30_Fresh.p1 k s1 rows2 (IntKind.i64.wrap (i7 + 1)) c3b)))) else none) else (some true)
noncomputable def erasureref30_Fresh  (k : Nat) (c0 : TCache) (s1 : (List TCached)) (rows2 : (List TEntry)) : Option Bool := (erasureref30_Valid k s1).bind fun y_1 => (if (!y_1) = true then (some false) else ((erasureref06_Valid k rows2).bind fun y_4 => (if (!y_4) = true then (some false) else (erasureref30_Fresh.p1 k s1 rows2 0 c0))))
noncomputable def erasureref30_Fresh.t : List Item := [.code (bodyOf Try.f29)]
noncomputable def erasureref30_Fresh.s (c0 : TCache) (s1 : (List TCached)) (rows2 : (List TEntry)) : St := ⟨frOf Try.f29.ntmps 0 [(0, .agg ((cCache c0).map .p)), (1, .p (eL 5 cCached dCached s1)), (2, .p (eL 2 cEntry dEntry rows2))], []⟩
noncomputable def erasureref30_Fresh.p1.t : List Item := nav 12 [false] erasureref30_Fresh.t
noncomputable def erasureref30_Fresh.p1.s (s1 : (List TCached)) (rows2 : (List TEntry)) (i7 : Int) (c3b : TCache) : St := ⟨frOf Try.f29.ntmps 0 [(1, .p (eL 5 cCached dCached s1)), (2, .p (eL 2 cEntry dEntry rows2)), (3, .ptr 0 0 0), (7, .p (.int .i64 i7))], [.box ((cCache c3b).map .p)]⟩
theorem erasureref30_Fresh.p1.run   : ∀ (k : Nat) (s1 : (List TCached)) (rows2 : (List TEntry)) (i7 : Int) (c3b : TCache) (r : Bool), erasureref30_Fresh.p1 k s1 rows2 i7 c3b = some r → RunC Try.prog Try.f29 erasureref30_Fresh.p1.t (erasureref30_Fresh.p1.s s1 rows2 i7 c3b) (.p (.bool r)) [] := by
  intro k
  induction k with
  | zero => intro s1 rows2 i7 c3b r h; simp [erasureref30_Fresh.p1] at h
  | succ k ih =>
    intro s1 rows2 i7 c3b r h
    rw [erasureref30_Fresh.p1] at h
    rcases ite_or h with ⟨g_7, h⟩ | ⟨g_7, h⟩
    · obtain ⟨g_8, h⟩ := ite_some h
      obtain ⟨y_9, e_10, h⟩ := bind_or h
      obtain ⟨y_11, e_12, h⟩ := bind_or h
      rcases ite_or h with ⟨g_13, h⟩ | ⟨g_13, h⟩
      · obtain rfl := Option.some.inj h
        exact RunC.out [.n 2, .r [(3, .dec true)], .n 5, .r [(13, .call (.sref 0 36 2 (y_9).length) [(oL true 36 2 cEntry dEntry y_9)]), (14, .call (.p (.bool y_11)) []), (15, .dec true)], .n 3] (by kernel_rfl) (Obs.of (by kernel_rfl) (And.intro g_7 (And.intro g_8 (And.intro g_8 (And.intro (erasureref30_Select.spec e_10) (And.intro (erasureref26_SameBag.spec e_12) g_13))))))
      · exact RunC.go [.n 2, .r [(3, .dec true)], .n 5, .r [(13, .call (.sref 0 36 2 (y_9).length) [(oL true 36 2 cEntry dEntry y_9)]), (14, .call (.p (.bool y_11)) []), (15, .dec false)], .n 5, .k [1, 2, 3, 7]] (by kernel_rfl) (Obs.of (by kernel_rfl) (And.intro g_7 (And.intro g_8 (And.intro g_8 (And.intro (erasureref30_Select.spec e_10) (And.intro (erasureref26_SameBag.spec e_12) (nt g_13))))))) (ih _ _ _ _ r h)
    · obtain rfl := Option.some.inj h
      exact RunC.out [.n 2, .r [(3, .dec false)], .n 4] (by kernel_rfl) (Obs.of (by kernel_rfl) (nt g_7))
theorem erasureref30_Fresh.run   {k : Nat} {c0 : TCache} {s1 : (List TCached)} {rows2 : (List TEntry)} {r : Bool} (h : erasureref30_Fresh k c0 s1 rows2 = some r) : RunC Try.prog Try.f29 erasureref30_Fresh.t (erasureref30_Fresh.s c0 s1 rows2) (.p (.bool r)) [] := by
  unfold erasureref30_Fresh at h
  obtain ⟨y_1, e_2, h⟩ := bind_or h
  rcases ite_or h with ⟨g_3, h⟩ | ⟨g_3, h⟩
  · obtain rfl := Option.some.inj h
    exact RunC.out [.n 4, .r [(1, .call (.p (.bool y_1)) []), (3, .dec true)], .n 3] (by kernel_rfl) (Obs.of (by kernel_rfl) (And.intro (erasureref30_Valid.spec e_2) g_3))
  · obtain ⟨y_4, e_5, h⟩ := bind_or h
    rcases ite_or h with ⟨g_6, h⟩ | ⟨g_6, h⟩
    · obtain rfl := Option.some.inj h
      exact RunC.out [.n 4, .r [(1, .call (.p (.bool y_1)) []), (3, .dec false), (5, .call (.p (.bool y_4)) []), (7, .dec true)], .n 3] (by kernel_rfl) (Obs.of (by kernel_rfl) (And.intro (erasureref30_Valid.spec e_2) (And.intro (nt g_3) (And.intro (erasureref06_Valid.spec e_5) g_6))))
    · exact RunC.go [.n 4, .r [(1, .call (.p (.bool y_1)) []), (3, .dec false), (5, .call (.p (.bool y_4)) []), (7, .dec false)], .n 7, .k [1, 2, 3, 7]] (by kernel_rfl) (Obs.of (by kernel_rfl) (And.intro (erasureref30_Valid.spec e_2) (And.intro (nt g_3) (And.intro (erasureref06_Valid.spec e_5) (nt g_6))))) (erasureref30_Fresh.p1.run k _ _ _ _ r h)
theorem erasureref30_Fresh.p1.mono   : ∀ (k k' : Nat) (s1 : (List TCached)) (rows2 : (List TEntry)) (i7 : Int) (c3b : TCache) (r : Bool), k ≤ k' → erasureref30_Fresh.p1 k s1 rows2 i7 c3b = some r → erasureref30_Fresh.p1 k' s1 rows2 i7 c3b = some r := by
  intro k
  induction k with
  | zero => intro k' s1 rows2 i7 c3b r hk h; simp [erasureref30_Fresh.p1] at h
  | succ k ih =>
    intro k' s1 rows2 i7 c3b r hk h
    obtain ⟨k', rfl⟩ : ∃ m, k' = m + 1 := ⟨k' - 1, by omega⟩
    replace hk := Nat.le_of_succ_le_succ hk
    rw [erasureref30_Fresh.p1] at h ⊢
    rcases ite_or h with ⟨g_7, h⟩ | ⟨g_7, h⟩
    · refine itp g_7 ?_
      obtain ⟨g_8, h⟩ := ite_some h
      refine itp g_8 ?_
      obtain ⟨y_9, e_10, h⟩ := bind_or h
      refine bnd (erasureref30_Select.mono _ _ _ _ _ _ hk e_10) ?_
      obtain ⟨y_11, e_12, h⟩ := bind_or h
      refine bnd (erasureref26_SameBag.mono _ _ _ _ _ hk e_12) ?_
      rcases ite_or h with ⟨g_13, h⟩ | ⟨g_13, h⟩
      · refine itp g_13 ?_
        exact h
      · refine itn g_13 ?_
        exact ih _ _ _ _ _ r hk h
    · refine itn g_7 ?_
      exact h
theorem erasureref30_Fresh.mono   : ∀ (k k' : Nat) (c0 : TCache) (s1 : (List TCached)) (rows2 : (List TEntry)) (r : Bool), k ≤ k' → erasureref30_Fresh k c0 s1 rows2 = some r → erasureref30_Fresh k' c0 s1 rows2 = some r := by
  intro k k' c0 s1 rows2 r hk h
  unfold erasureref30_Fresh at h ⊢
  obtain ⟨y_1, e_2, h⟩ := bind_or h
  refine bnd (erasureref30_Valid.mono _ _ _ _ hk e_2) ?_
  rcases ite_or h with ⟨g_3, h⟩ | ⟨g_3, h⟩
  · refine itp g_3 ?_
    exact h
  · refine itn g_3 ?_
    obtain ⟨y_4, e_5, h⟩ := bind_or h
    refine bnd (erasureref06_Valid.mono _ _ _ _ hk e_5) ?_
    rcases ite_or h with ⟨g_6, h⟩ | ⟨g_6, h⟩
    · refine itp g_6 ?_
      exact h
    · refine itn g_6 ?_
      exact erasureref30_Fresh.p1.mono _ _ _ _ _ _ r hk h
theorem erasureref30_Fresh.spec {k : Nat} {c0 : TCache} {s1 : (List TCached)} {rows2 : (List TEntry)} {r : Bool} (h : erasureref30_Fresh k c0 s1 rows2 = some r) : Spec Try.prog 29 [.agg ((cCache c0).map .p), .p (eL 5 cCached dCached s1), .p (eL 2 cEntry dEntry rows2)] (.p (.bool r)) [] :=
  spec_of mix Try.func29 (body := bodyOf Try.f29) (by kernel_rfl) (by kernel_rfl) (erasureref30_Fresh.run h)
end Go.Proofs.YtjhnpaenhdbhpabV
set_option linter.unusedVariables false
set_option linter.unusedSimpArgs false
set_option maxRecDepth 100000
namespace Go.Proofs.YtjhnpaenhdbhpabV
open Go Go.RowKit
noncomputable def erasureref30_Refill.p1  : Nat → (List TCached) → (List TEntry) → Int → Int → TCache → (List TCached) → Option (List TCached)
  | 0, _, _, _, _, _, _ => none
  | k + 1, s1, rows2, day3, i10, c4b, out9 => if (decide (i10 < ((s1).length : Int))) = true then (if 0 ≤ i10 ∧ i10 < ((s1).length : Int) then ((erasureref30_Select k rows2 c4b.f2 ((s1.getD i10.toNat dCached).f0)).bind fun y_12 => (if (decide (((y_12).length : Int) > 0)) = true then (if (out9).length + ([(TCached.mk ((s1.getD i10.toNat dCached).f0) y_12 day3)]).length ≤ maxLen ∧ ((out9).length + ([(TCached.mk ((s1.getD i10.toNat dCached).f0) y_12 day3)]).length) * 64 ≤ 140737488355328 then (erasureref30_Refill.p1 k s1 rows2 day3 (IntKind.i64.wrap (i10 + 1)) c4b (out9 ++ ([(TCached.mk ((s1.getD i10.toNat dCached).f0) y_12 day3)]))) else none) else (erasureref30_Refill.p1 k s1 rows2 day3 (IntKind.i64.wrap (i10 + 1)) c4b out9))) else none) else (some out9)
noncomputable def erasureref30_Refill  (k : Nat) (c0 : TCache) (s1 : (List TCached)) (rows2 : (List TEntry)) (day3 : Int) : Option (List TCached) := (erasureref30_Valid k s1).bind fun y_1 => (if (!y_1) = true then (some ([] : List TCached)) else ((erasureref06_Valid k rows2).bind fun y_4 => (if (!y_4) = true then (some ([] : List TCached)) else ((erasureref30_ranged k c0 day3).bind fun y_7 => (if (!y_7) = true then (some ([] : List TCached)) else (erasureref30_Refill.p1 k s1 rows2 day3 0 c0 ([] : List TCached)))))))
noncomputable def erasureref30_Refill.t : List Item := [.code (bodyOf Try.f22)]
noncomputable def erasureref30_Refill.s (c0 : TCache) (s1 : (List TCached)) (rows2 : (List TEntry)) (day3 : Int) : St := ⟨frOf Try.f22.ntmps 0 [(0, .agg ((cCache c0).map .p)), (1, .p (eL 5 cCached dCached s1)), (2, .p (eL 2 cEntry dEntry rows2)), (3, .p (.int .i64 day3))], []⟩
noncomputable def erasureref30_Refill.p1.t : List Item := nav 14 [false] erasureref30_Refill.t
noncomputable def erasureref30_Refill.p1.s (s1 : (List TCached)) (rows2 : (List TEntry)) (day3 : Int) (i10 : Int) (c4b : TCache) (out9 : (List TCached)) : St := ⟨frOf Try.f22.ntmps 0 [(1, .p (eL 5 cCached dCached s1)), (2, .p (eL 2 cEntry dEntry rows2)), (3, .p (.int .i64 day3)), (4, .ptr 0 0 0), (9, .sref 1 46 5 (out9).length), (10, .p (.int .i64 i10))], [.box ((cCache c4b).map .p), (oL true 46 5 cCached dCached out9)]⟩
theorem erasureref30_Refill.p1.run   : ∀ (k : Nat) (s1 : (List TCached)) (rows2 : (List TEntry)) (day3 : Int) (i10 : Int) (c4b : TCache) (out9 : (List TCached)) (r : (List TCached)), erasureref30_Refill.p1 k s1 rows2 day3 i10 c4b out9 = some r → RunC Try.prog Try.f22 erasureref30_Refill.p1.t (erasureref30_Refill.p1.s s1 rows2 day3 i10 c4b out9) (.sref 0 46 5 (r).length) [(oL true 46 5 cCached dCached (r))] := by
  intro k
  induction k with
  | zero => intro s1 rows2 day3 i10 c4b out9 r h; simp [erasureref30_Refill.p1] at h
  | succ k ih =>
    intro s1 rows2 day3 i10 c4b out9 r h
    rw [erasureref30_Refill.p1] at h
    rcases ite_or h with ⟨g_10, h⟩ | ⟨g_10, h⟩
    · obtain ⟨g_11, h⟩ := ite_some h
      obtain ⟨y_12, e_13, h⟩ := bind_or h
      rcases ite_or h with ⟨g_14, h⟩ | ⟨g_14, h⟩
      · obtain ⟨g_15, h⟩ := ite_some h
        exact RunC.go [.n 2, .r [(3, .dec true)], .n 5, .r [(8, .call (.sref 0 36 2 (y_12).length) [(oL true 36 2 cEntry dEntry y_12)])], .n 1, .r [(2, .dec true)], .n 1, .r [(9, .obj (oL true 46 5 cCached dCached [(TCached.mk ((s1.getD i10.toNat dCached).f0) y_12 day3)])), (10, .obj (oL true 46 5 cCached dCached (out9 ++ ([(TCached.mk ((s1.getD i10.toNat dCached).f0) y_12 day3)]))))], .n 3, .k [1, 2, 3, 4, 9, 10]] (by kernel_rfl) (Obs.of (by kernel_rfl) (And.intro g_10 (And.intro g_11 (And.intro (erasureref30_Select.spec e_13) (And.intro g_14 (And.intro g_11 (And.intro (le_one 46 5 cCached dCached (TCached.mk ((s1.getD i10.toNat dCached).f0) y_12 day3)) (And.intro g_15 (le_app 46 5 cCached dCached out9 ([(TCached.mk ((s1.getD i10.toNat dCached).f0) y_12 day3)])))))))))) (ih _ _ _ _ _ _ r h)
      · exact RunC.go [.n 2, .r [(3, .dec true)], .n 5, .r [(8, .call (.sref 0 36 2 (y_12).length) [(oL true 36 2 cEntry dEntry y_12)])], .n 1, .r [(2, .dec false)], .n 5, .k [1, 2, 3, 4, 9, 10]] (by kernel_rfl) (Obs.of (by kernel_rfl) (And.intro g_10 (And.intro g_11 (And.intro (erasureref30_Select.spec e_13) (nt g_14))))) (ih _ _ _ _ _ _ r h)
    · obtain rfl := Option.some.inj h
      exact RunC.out [.n 2, .r [(3, .dec false)], .n 4] (by kernel_rfl) (Obs.of (by kernel_rfl) (nt g_10))
theorem erasureref30_Refill.run   {k : Nat} {c0 : TCache} {s1 : (List TCached)} {rows2 : (List TEntry)} {day3 : Int} {r : (List TCached)} (h : erasureref30_Refill k c0 s1 rows2 day3 = some r) : RunC Try.prog Try.f22 erasureref30_Refill.t (erasureref30_Refill.s c0 s1 rows2 day3) (.sref 0 46 5 (r).length) [(oL true 46 5 cCached dCached (r))] := by
  unfold erasureref30_Refill at h
  obtain ⟨y_1, e_2, h⟩ := bind_or h
  rcases ite_or h with ⟨g_3, h⟩ | ⟨g_3, h⟩
  · obtain rfl := Option.some.inj h
    exact RunC.out [.n 1, .r [(1, .obj (oL true 46 5 cCached dCached ([] : List TCached)))], .n 2, .r [(1, .call (.p (.bool y_1)) []), (3, .dec true)], .n 2, .r [(0, .obj (oL true 46 5 cCached dCached ([] : List TCached)))]] (by kernel_rfl) (Obs.of (by kernel_rfl) (And.intro (le_nil 46 5 cCached dCached) (And.intro (erasureref30_Valid.spec e_2) (And.intro g_3 (le_nil 46 5 cCached dCached)))))
  · obtain ⟨y_4, e_5, h⟩ := bind_or h
    rcases ite_or h with ⟨g_6, h⟩ | ⟨g_6, h⟩
    · obtain rfl := Option.some.inj h
      exact RunC.out [.n 1, .r [(1, .obj (oL true 46 5 cCached dCached ([] : List TCached)))], .n 2, .r [(1, .call (.p (.bool y_1)) []), (3, .dec false), (5, .call (.p (.bool y_4)) []), (8, .dec true)], .n 2, .r [(0, .obj (oL true 46 5 cCached dCached ([] : List TCached)))]] (by kernel_rfl) (Obs.of (by kernel_rfl) (And.intro (le_nil 46 5 cCached dCached) (And.intro (erasureref30_Valid.spec e_2) (And.intro (nt g_3) (And.intro (erasureref06_Valid.spec e_5) (And.intro g_6 (le_nil 46 5 cCached dCached)))))))
    · obtain ⟨y_7, e_8, h⟩ := bind_or h
      rcases ite_or h with ⟨g_9, h⟩ | ⟨g_9, h⟩
      · obtain rfl := Option.some.inj h
        exact RunC.out [.n 1, .r [(1, .obj (oL true 46 5 cCached dCached ([] : List TCached)))], .n 2, .r [(1, .call (.p (.bool y_1)) []), (3, .dec false), (5, .call (.p (.bool y_4)) []), (8, .dec false), (11, .call (.p (.bool y_7)) []), (13, .dec true)], .n 2, .r [(0, .obj (oL true 46 5 cCached dCached ([] : List TCached)))]] (by kernel_rfl) (Obs.of (by kernel_rfl) (And.intro (le_nil 46 5 cCached dCached) (And.intro (erasureref30_Valid.spec e_2) (And.intro (nt g_3) (And.intro (erasureref06_Valid.spec e_5) (And.intro (nt g_6) (And.intro (erasureref30_ranged.spec e_8) (And.intro g_9 (le_nil 46 5 cCached dCached)))))))))
      · exact RunC.go [.n 1, .r [(1, .obj (oL true 46 5 cCached dCached ([] : List TCached)))], .n 2, .r [(1, .call (.p (.bool y_1)) []), (3, .dec false), (5, .call (.p (.bool y_4)) []), (8, .dec false), (11, .call (.p (.bool y_7)) []), (13, .dec false)], .n 3, .r [(0, .obj (oL true 46 5 cCached dCached ([] : List TCached)))], .n 5, .k [1, 2, 3, 4, 9, 10]] (by kernel_rfl) (Obs.of (by kernel_rfl) (And.intro (le_nil 46 5 cCached dCached) (And.intro (erasureref30_Valid.spec e_2) (And.intro (nt g_3) (And.intro (erasureref06_Valid.spec e_5) (And.intro (nt g_6) (And.intro (erasureref30_ranged.spec e_8) (And.intro (nt g_9) (le_nil 46 5 cCached dCached))))))))) (erasureref30_Refill.p1.run k _ _ _ _ _ _ r h)
theorem erasureref30_Refill.p1.mono   : ∀ (k k' : Nat) (s1 : (List TCached)) (rows2 : (List TEntry)) (day3 : Int) (i10 : Int) (c4b : TCache) (out9 : (List TCached)) (r : (List TCached)), k ≤ k' → erasureref30_Refill.p1 k s1 rows2 day3 i10 c4b out9 = some r → erasureref30_Refill.p1 k' s1 rows2 day3 i10 c4b out9 = some r := by
  intro k
  induction k with
  | zero => intro k' s1 rows2 day3 i10 c4b out9 r hk h; simp [erasureref30_Refill.p1] at h
  | succ k ih =>
    intro k' s1 rows2 day3 i10 c4b out9 r hk h
    obtain ⟨k', rfl⟩ : ∃ m, k' = m + 1 := ⟨k' - 1, by omega⟩
    replace hk := Nat.le_of_succ_le_succ hk
    rw [erasureref30_Refill.p1] at h ⊢
    rcases ite_or h with ⟨g_10, h⟩ | ⟨g_10, h⟩
    · refine itp g_10 ?_
      obtain ⟨g_11, h⟩ := ite_some h
      refine itp g_11 ?_
      obtain ⟨y_12, e_13, h⟩ := bind_or h
      refine bnd (erasureref30_Select.mono _ _ _ _ _ _ hk e_13) ?_
      rcases ite_or h with ⟨g_14, h⟩ | ⟨g_14, h⟩
      · refine itp g_14 ?_
        obtain ⟨g_15, h⟩ := ite_some h
        refine itp g_15 ?_
        exact ih _ _ _ _ _ _ _ r hk h
      · refine itn g_14 ?_
        exact ih _ _ _ _ _ _ _ r hk h
    · refine itn g_10 ?_
      exact h
theorem erasureref30_Refill.mono   : ∀ (k k' : Nat) (c0 : TCache) (s1 : (List TCached)) (rows2 : (List TEntry)) (day3 : Int) (r : (List TCached)), k ≤ k' → erasureref30_Refill k c0 s1 rows2 day3 = some r → erasureref30_Refill k' c0 s1 rows2 day3 = some r := by
  intro k k' c0 s1 rows2 day3 r hk h
  unfold erasureref30_Refill at h ⊢
  obtain ⟨y_1, e_2, h⟩ := bind_or h
  refine bnd (erasureref30_Valid.mono _ _ _ _ hk e_2) ?_
  rcases ite_or h with ⟨g_3, h⟩ | ⟨g_3, h⟩
  · refine itp g_3 ?_
    exact h
  · refine itn g_3 ?_
    obtain ⟨y_4, e_5, h⟩ := bind_or h
    refine bnd (erasureref06_Valid.mono _ _ _ _ hk e_5) ?_
    rcases ite_or h with ⟨g_6, h⟩ | ⟨g_6, h⟩
    · refine itp g_6 ?_
      exact h
    · refine itn g_6 ?_
      obtain ⟨y_7, e_8, h⟩ := bind_or h
      refine bnd (erasureref30_ranged.mono _ _ _ _ _ hk e_8) ?_
      rcases ite_or h with ⟨g_9, h⟩ | ⟨g_9, h⟩
      · refine itp g_9 ?_
        exact h
      · refine itn g_9 ?_
        exact erasureref30_Refill.p1.mono _ _ _ _ _ _ _ _ r hk h
theorem erasureref30_Refill.spec {k : Nat} {c0 : TCache} {s1 : (List TCached)} {rows2 : (List TEntry)} {day3 : Int} {r : (List TCached)} (h : erasureref30_Refill k c0 s1 rows2 day3 = some r) : Spec Try.prog 22 [.agg ((cCache c0).map .p), .p (eL 5 cCached dCached s1), .p (eL 2 cEntry dEntry rows2), .p (.int .i64 day3)] (.sref 0 46 5 (r).length) [(oL true 46 5 cCached dCached (r))] :=
  spec_of mix Try.func22 (body := bodyOf Try.f22) (by kernel_rfl) (by kernel_rfl) (erasureref30_Refill.run h)
end Go.Proofs.YtjhnpaenhdbhpabV
set_option linter.unusedVariables false
set_option linter.unusedSimpArgs false
set_option maxRecDepth 100000
namespace Go.Proofs.YtjhnpaenhdbhpabV
open Go Go.RowKit
noncomputable def cache_Purge.p2  : Nat → (List TCached) → Int → (List (TValue × Bool)) → (List TCached) → Option (List TCached)
  | 0, _, _, _, _ => none
  | k + 1, s0, i8, gone5b, out7 => if (decide (i8 < ((s0).length : Int))) = true then (if 0 ≤ i8 ∧ i8 < ((s0).length : Int) then (if (!(getM gone5b ((s0.getD i8.toNat dCached).f0) false)) = true then ((cache_duplicate k (s0.getD i8.toNat dCached)).bind fun y_11 => (if (out7).length + ([y_11]).length ≤ maxLen ∧ ((out7).length + ([y_11]).length) * 64 ≤ 140737488355328 then (cache_Purge.p2 k s0 (IntKind.i64.wrap (i8 + 1)) gone5b (out7 ++ ([y_11]))) else none)) else (cache_Purge.p2 k s0 (IntKind.i64.wrap (i8 + 1)) gone5b out7)) else none) else (some out7)
noncomputable def cache_Purge.p1  : Nat → (List TCached) → (List TValue) → Int → (List (TValue × Bool)) → Option (List TCached)
  | 0, _, _, _, _ => none
  | k + 1, s0, values1, i6, gone5b => if (decide (i6 < ((values1).length : Int))) = true then (if 0 ≤ i6 ∧ i6 < ((values1).length : Int) then ((value_Clean k (values1.getD i6.toNat dValue)).bind fun y_6 => (cache_Purge.p1 k s0 values1 (IntKind.i64.wrap (i6 + 1)) (putM gone5b y_6 true))) else none) else (cache_Purge.p2 k s0 0 gone5b ([] : List TCached))
noncomputable def cache_Purge  (k : Nat) (s0 : (List TCached)) (values1 : (List TValue)) : Option (List TCached) := (cache_Valid k s0).bind fun y_1 => (if (!y_1) = true then (some ([] : List TCached)) else (cache_Purge.p1 k s0 values1 0 ([] : (List (TValue × Bool)))))
noncomputable def cache_Purge.t : List Item := [.code (bodyOf Try.f23)]
noncomputable def cache_Purge.s (s0 : (List TCached)) (values1 : (List TValue)) : St := ⟨frOf Try.f23.ntmps 0 [(0, .p (eL 5 cCached dCached s0)), (1, .p (eL 3 cValue dValue values1))], []⟩
noncomputable def cache_Purge.p1.t : List Item := nav 14 [false] cache_Purge.t
noncomputable def cache_Purge.p1.s (s0 : (List TCached)) (values1 : (List TValue)) (i6 : Int) (gone5b : (List (TValue × Bool))) : St := ⟨frOf Try.f23.ntmps 0 [(0, .p (eL 5 cCached dCached s0)), (1, .p (eL 3 cValue dValue values1)), (5, .mref 0 0), (6, .p (.int .i64 i6))], [.reg (.map (mE (pvT cValue) pvB gone5b))]⟩
noncomputable def cache_Purge.p2.t : List Item := nav 12 [false] cache_Purge.p1.t
noncomputable def cache_Purge.p2.s (s0 : (List TCached)) (i8 : Int) (gone5b : (List (TValue × Bool))) (out7 : (List TCached)) : St := ⟨frOf Try.f23.ntmps 0 [(0, .p (eL 5 cCached dCached s0)), (5, .mref 0 0), (7, .sref 1 46 5 (out7).length), (8, .p (.int .i64 i8))], [.reg (.map (mE (pvT cValue) pvB gone5b)), (oL true 46 5 cCached dCached out7)]⟩
theorem cache_Purge.p2.run   : ∀ (k : Nat) (s0 : (List TCached)) (i8 : Int) (gone5b : (List (TValue × Bool))) (out7 : (List TCached)) (r : (List TCached)), cache_Purge.p2 k s0 i8 gone5b out7 = some r → RunC Try.prog Try.f23 cache_Purge.p2.t (cache_Purge.p2.s s0 i8 gone5b out7) (.sref 0 46 5 (r).length) [(oL true 46 5 cCached dCached (r))] := by
  intro k
  induction k with
  | zero => intro s0 i8 gone5b out7 r h; simp [cache_Purge.p2] at h
  | succ k ih =>
    intro s0 i8 gone5b out7 r h
    rw [cache_Purge.p2] at h
    rcases ite_or h with ⟨g_8, h⟩ | ⟨g_8, h⟩
    · obtain ⟨g_9, h⟩ := ite_some h
      rcases ite_or h with ⟨g_10, h⟩ | ⟨g_10, h⟩
      · obtain ⟨y_11, e_12, h⟩ := bind_or h
        obtain ⟨g_13, h⟩ := ite_some h
        exact RunC.go [.n 2, .r [(3, .dec true)], .n 5, .r [(6, .fv (.p (.bool (getM gone5b ((s0.getD i8.toNat dCached).f0) false)))), (7, .dec true)], .n 1, .r [(5, .call (.agg ((cCached y_11).map .p)) []), (6, .obj (oL true 46 5 cCached dCached [y_11])), (7, .obj (oL true 46 5 cCached dCached (out7 ++ ([y_11]))))], .n 3, .k [0, 5, 7, 8]] (by kernel_rfl) (Obs.of (by kernel_rfl) (And.intro g_8 (And.intro g_9 (And.intro (le_get (P := Try.prog) (kt := 24) (q := pvB) inj_Value (fun _ => by kernel_rfl) ((s0.getD i8.toNat dCached).f0) false gone5b) (And.intro g_10 (And.intro g_9 (And.intro (cache_duplicate.spec e_12) (And.intro (le_one 46 5 cCached dCached y_11) (And.intro g_13 (le_app 46 5 cCached dCached out7 ([y_11]))))))))))) (ih _ _ _ _ r h)
      · exact RunC.go [.n 2, .r [(3, .dec true)], .n 5, .r [(6, .fv (.p (.bool (getM gone5b ((s0.getD i8.toNat dCached).f0) false)))), (7, .dec false)], .n 5, .k [0, 5, 7, 8]] (by kernel_rfl) (Obs.of (by kernel_rfl) (And.intro g_8 (And.intro g_9 (And.intro (le_get (P := Try.prog) (kt := 24) (q := pvB) inj_Value (fun _ => by kernel_rfl) ((s0.getD i8.toNat dCached).f0) false gone5b) (nt g_10))))) (ih _ _ _ _ r h)
    · obtain rfl := Option.some.inj h
      exact RunC.out [.n 2, .r [(3, .dec false)], .n 4] (by kernel_rfl) (Obs.of (by kernel_rfl) (nt g_8))
theorem cache_Purge.p1.run   : ∀ (k : Nat) (s0 : (List TCached)) (values1 : (List TValue)) (i6 : Int) (gone5b : (List (TValue × Bool))) (r : (List TCached)), cache_Purge.p1 k s0 values1 i6 gone5b = some r → RunC Try.prog Try.f23 cache_Purge.p1.t (cache_Purge.p1.s s0 values1 i6 gone5b) (.sref 0 46 5 (r).length) [(oL true 46 5 cCached dCached (r))] := by
  intro k
  induction k with
  | zero => intro s0 values1 i6 gone5b r h; simp [cache_Purge.p1] at h
  | succ k ih =>
    intro s0 values1 i6 gone5b r h
    rw [cache_Purge.p1] at h
    rcases ite_or h with ⟨g_4, h⟩ | ⟨g_4, h⟩
    · obtain ⟨g_5, h⟩ := ite_some h
      obtain ⟨y_6, e_7, h⟩ := bind_or h
      exact RunC.go [.n 2, .r [(3, .dec true)], .n 4, .r [(5, .call (.agg ((cValue y_6).map .p)) []), (6, .mp (mE (pvT cValue) pvB (putM gone5b y_6 true)))], .n 3, .k [0, 1, 5, 6]] (by kernel_rfl) (Obs.of (by kernel_rfl) (And.intro g_4 (And.intro g_5 (And.intro (value_Clean.spec e_7) (le_put (P := Try.prog) (kt := 24) (q := pvB) inj_Value (fun _ => by kernel_rfl) y_6 true gone5b))))) (ih _ _ _ _ r h)
    · exact RunC.go [.n 2, .r [(3, .dec false)], .n 3, .r [(0, .obj (oL true 46 5 cCached dCached ([] : List TCached)))], .n 5, .k [0, 5, 7, 8]] (by kernel_rfl) (Obs.of (by kernel_rfl) (And.intro (nt g_4) (le_nil 46 5 cCached dCached))) (cache_Purge.p2.run k _ _ _ _ r h)
theorem cache_Purge.run   {k : Nat} {s0 : (List TCached)} {values1 : (List TValue)} {r : (List TCached)} (h : cache_Purge k s0 values1 = some r) : RunC Try.prog Try.f23 cache_Purge.t (cache_Purge.s s0 values1) (.sref 0 46 5 (r).length) [(oL true 46 5 cCached dCached (r))] := by
  unfold cache_Purge at h
  obtain ⟨y_1, e_2, h⟩ := bind_or h
  rcases ite_or h with ⟨g_3, h⟩ | ⟨g_3, h⟩
  · obtain rfl := Option.some.inj h
    exact RunC.out [.n 1, .r [(0, .obj (oL true 46 5 cCached dCached ([] : List TCached)))], .n 2, .r [(1, .call (.p (.bool y_1)) []), (2, .dec true)], .n 2, .r [(0, .obj (oL true 46 5 cCached dCached ([] : List TCached)))]] (by kernel_rfl) (Obs.of (by kernel_rfl) (And.intro (le_nil 46 5 cCached dCached) (And.intro (cache_Valid.spec e_2) (And.intro g_3 (le_nil 46 5 cCached dCached)))))
  · exact RunC.go [.n 1, .r [(0, .obj (oL true 46 5 cCached dCached ([] : List TCached)))], .n 2, .r [(1, .call (.p (.bool y_1)) []), (2, .dec false)], .n 3, .r [(0, .mp (mE (pvT cValue) pvB ([] : (List (TValue × Bool)))))], .n 5, .k [0, 1, 5, 6]] (by kernel_rfl) (Obs.of (by kernel_rfl) (And.intro (le_nil 46 5 cCached dCached) (And.intro (cache_Valid.spec e_2) (And.intro (nt g_3) (le_mnil (pvT cValue) pvB))))) (cache_Purge.p1.run k _ _ _ _ r h)
theorem cache_Purge.p2.mono   : ∀ (k k' : Nat) (s0 : (List TCached)) (i8 : Int) (gone5b : (List (TValue × Bool))) (out7 : (List TCached)) (r : (List TCached)), k ≤ k' → cache_Purge.p2 k s0 i8 gone5b out7 = some r → cache_Purge.p2 k' s0 i8 gone5b out7 = some r := by
  intro k
  induction k with
  | zero => intro k' s0 i8 gone5b out7 r hk h; simp [cache_Purge.p2] at h
  | succ k ih =>
    intro k' s0 i8 gone5b out7 r hk h
    obtain ⟨k', rfl⟩ : ∃ m, k' = m + 1 := ⟨k' - 1, by omega⟩
    replace hk := Nat.le_of_succ_le_succ hk
    rw [cache_Purge.p2] at h ⊢
    rcases ite_or h with ⟨g_8, h⟩ | ⟨g_8, h⟩
    · refine itp g_8 ?_
      obtain ⟨g_9, h⟩ := ite_some h
      refine itp g_9 ?_
      rcases ite_or h with ⟨g_10, h⟩ | ⟨g_10, h⟩
      · refine itp g_10 ?_
        obtain ⟨y_11, e_12, h⟩ := bind_or h
        refine bnd (cache_duplicate.mono _ _ _ _ hk e_12) ?_
        obtain ⟨g_13, h⟩ := ite_some h
        refine itp g_13 ?_
        exact ih _ _ _ _ _ r hk h
      · refine itn g_10 ?_
        exact ih _ _ _ _ _ r hk h
    · refine itn g_8 ?_
      exact h
theorem cache_Purge.p1.mono   : ∀ (k k' : Nat) (s0 : (List TCached)) (values1 : (List TValue)) (i6 : Int) (gone5b : (List (TValue × Bool))) (r : (List TCached)), k ≤ k' → cache_Purge.p1 k s0 values1 i6 gone5b = some r → cache_Purge.p1 k' s0 values1 i6 gone5b = some r := by
  intro k
  induction k with
  | zero => intro k' s0 values1 i6 gone5b r hk h; simp [cache_Purge.p1] at h
  | succ k ih =>
    intro k' s0 values1 i6 gone5b r hk h
    obtain ⟨k', rfl⟩ : ∃ m, k' = m + 1 := ⟨k' - 1, by omega⟩
    replace hk := Nat.le_of_succ_le_succ hk
    rw [cache_Purge.p1] at h ⊢
    rcases ite_or h with ⟨g_4, h⟩ | ⟨g_4, h⟩
    · refine itp g_4 ?_
      obtain ⟨g_5, h⟩ := ite_some h
      refine itp g_5 ?_
      obtain ⟨y_6, e_7, h⟩ := bind_or h
      refine bnd (value_Clean.mono _ _ _ _ hk e_7) ?_
      exact ih _ _ _ _ _ r hk h
    · refine itn g_4 ?_
      exact cache_Purge.p2.mono _ _ _ _ _ _ r hk h
theorem cache_Purge.mono   : ∀ (k k' : Nat) (s0 : (List TCached)) (values1 : (List TValue)) (r : (List TCached)), k ≤ k' → cache_Purge k s0 values1 = some r → cache_Purge k' s0 values1 = some r := by
  intro k k' s0 values1 r hk h
  unfold cache_Purge at h ⊢
  obtain ⟨y_1, e_2, h⟩ := bind_or h
  refine bnd (cache_Valid.mono _ _ _ _ hk e_2) ?_
  rcases ite_or h with ⟨g_3, h⟩ | ⟨g_3, h⟩
  · refine itp g_3 ?_
    exact h
  · refine itn g_3 ?_
    exact cache_Purge.p1.mono _ _ _ _ _ _ r hk h
theorem cache_Purge.spec {k : Nat} {s0 : (List TCached)} {values1 : (List TValue)} {r : (List TCached)} (h : cache_Purge k s0 values1 = some r) : Spec Try.prog 23 [.p (eL 5 cCached dCached s0), .p (eL 3 cValue dValue values1)] (.sref 0 46 5 (r).length) [(oL true 46 5 cCached dCached (r))] :=
  spec_of mix Try.func23 (body := bodyOf Try.f23) (by kernel_rfl) (by kernel_rfl) (cache_Purge.run h)
end Go.Proofs.YtjhnpaenhdbhpabV
set_option linter.unusedVariables false
set_option linter.unusedSimpArgs false
set_option maxRecDepth 100000
namespace Go.Proofs.YtjhnpaenhdbhpabV
open Go Go.RowKit
noncomputable def erasureref30_Purge.p1  : Nat → (List TCached) → (List TValue) → Int → Option (List TCached)
  | 0, _, _, _ => none
  | k + 1, s0, values1, i5 => if (decide (i5 < ((values1).length : Int))) = true then (if 0 ≤ i5 ∧ i5 < ((values1).length : Int) then ((erasureref01_Clean k (values1.getD i5.toNat dValue)).bind fun y_6 => ((erasureref30_without k s0 y_6).bind fun y_8 => (erasureref30_Purge.p1 k y_8 values1 (IntKind.i64.wrap (i5 + 1))))) else none) else (some s0)
noncomputable def erasureref30_Purge  (k : Nat) (s0 : (List TCached)) (values1 : (List TValue)) : Option (List TCached) := (erasureref30_Valid k s0).bind fun y_1 => (if (!y_1) = true then (some ([] : List TCached)) else (erasureref30_Purge.p1 k s0 values1 0))
noncomputable def erasureref30_Purge.t : List Item := [.code (bodyOf Try.f24)]
noncomputable def erasureref30_Purge.s (s0 : (List TCached)) (values1 : (List TValue)) : St := ⟨frOf Try.f24.ntmps 0 [(0, .p (eL 5 cCached dCached s0)), (1, .p (eL 3 cValue dValue values1))], []⟩
noncomputable def erasureref30_Purge.p1.t : List Item := nav 12 [false] erasureref30_Purge.t
noncomputable def erasureref30_Purge.p1.s (s0 : (List TCached)) (values1 : (List TValue)) (i5 : Int) : St := ⟨frOf Try.f24.ntmps 0 [(0, .p (eL 5 cCached dCached s0)), (1, .p (eL 3 cValue dValue values1)), (5, .p (.int .i64 i5))], []⟩
theorem erasureref30_Purge.p1.run   : ∀ (k : Nat) (s0 : (List TCached)) (values1 : (List TValue)) (i5 : Int) (r : (List TCached)), erasureref30_Purge.p1 k s0 values1 i5 = some r → RunC Try.prog Try.f24 erasureref30_Purge.p1.t (erasureref30_Purge.p1.s s0 values1 i5) (.p ((eL 5 cCached dCached r))) [] := by
  intro k
  induction k with
  | zero => intro s0 values1 i5 r h; simp [erasureref30_Purge.p1] at h
  | succ k ih =>
    intro s0 values1 i5 r h
    rw [erasureref30_Purge.p1] at h
    rcases ite_or h with ⟨g_4, h⟩ | ⟨g_4, h⟩
    · obtain ⟨g_5, h⟩ := ite_some h
      obtain ⟨y_6, e_7, h⟩ := bind_or h
      obtain ⟨y_8, e_9, h⟩ := bind_or h
      exact RunC.go [.n 2, .r [(3, .dec true)], .n 4, .r [(5, .call (.agg ((cValue y_6).map .p)) []), (6, .call (.sref 0 46 5 (y_8).length) [(oL true 46 5 cCached dCached y_8)])], .n 3, .f 0, .k [0, 1, 5]] (by kernel_rfl) (Obs.of (by kernel_rfl) (And.intro g_4 (And.intro g_5 (And.intro (erasureref01_Clean.spec e_7) (erasureref30_without.spec e_9))))) (ih _ _ _ r h)
    · obtain rfl := Option.some.inj h
      exact RunC.out [.n 2, .r [(3, .dec false)], .n 4] (by kernel_rfl) (Obs.of (by kernel_rfl) (nt g_4))
theorem erasureref30_Purge.run   {k : Nat} {s0 : (List TCached)} {values1 : (List TValue)} {r : (List TCached)} (h : erasureref30_Purge k s0 values1 = some r) : RunC Try.prog Try.f24 erasureref30_Purge.t (erasureref30_Purge.s s0 values1) (.p ((eL 5 cCached dCached r))) [] := by
  unfold erasureref30_Purge at h
  obtain ⟨y_1, e_2, h⟩ := bind_or h
  rcases ite_or h with ⟨g_3, h⟩ | ⟨g_3, h⟩
  · obtain rfl := Option.some.inj h
    exact RunC.out [.n 1, .r [(0, .obj (oL true 46 5 cCached dCached ([] : List TCached)))], .n 2, .r [(1, .call (.p (.bool y_1)) []), (2, .dec true)], .n 2, .r [(0, .obj (oL true 46 5 cCached dCached ([] : List TCached)))], .f 4] (by kernel_rfl) (Obs.of (by kernel_rfl) (And.intro (le_nil 46 5 cCached dCached) (And.intro (erasureref30_Valid.spec e_2) (And.intro g_3 (le_nil 46 5 cCached dCached)))))
  · exact RunC.go [.n 1, .r [(0, .obj (oL true 46 5 cCached dCached ([] : List TCached)))], .n 2, .r [(1, .call (.p (.bool y_1)) []), (2, .dec false)], .n 7, .k [0, 1, 5]] (by kernel_rfl) (Obs.of (by kernel_rfl) (And.intro (le_nil 46 5 cCached dCached) (And.intro (erasureref30_Valid.spec e_2) (nt g_3)))) (erasureref30_Purge.p1.run k _ _ _ r h)
theorem erasureref30_Purge.p1.mono   : ∀ (k k' : Nat) (s0 : (List TCached)) (values1 : (List TValue)) (i5 : Int) (r : (List TCached)), k ≤ k' → erasureref30_Purge.p1 k s0 values1 i5 = some r → erasureref30_Purge.p1 k' s0 values1 i5 = some r := by
  intro k
  induction k with
  | zero => intro k' s0 values1 i5 r hk h; simp [erasureref30_Purge.p1] at h
  | succ k ih =>
    intro k' s0 values1 i5 r hk h
    obtain ⟨k', rfl⟩ : ∃ m, k' = m + 1 := ⟨k' - 1, by omega⟩
    replace hk := Nat.le_of_succ_le_succ hk
    rw [erasureref30_Purge.p1] at h ⊢
    rcases ite_or h with ⟨g_4, h⟩ | ⟨g_4, h⟩
    · refine itp g_4 ?_
      obtain ⟨g_5, h⟩ := ite_some h
      refine itp g_5 ?_
      obtain ⟨y_6, e_7, h⟩ := bind_or h
      refine bnd (erasureref01_Clean.mono _ _ _ _ hk e_7) ?_
      obtain ⟨y_8, e_9, h⟩ := bind_or h
      refine bnd (erasureref30_without.mono _ _ _ _ _ hk e_9) ?_
      exact ih _ _ _ _ r hk h
    · refine itn g_4 ?_
      exact h
theorem erasureref30_Purge.mono   : ∀ (k k' : Nat) (s0 : (List TCached)) (values1 : (List TValue)) (r : (List TCached)), k ≤ k' → erasureref30_Purge k s0 values1 = some r → erasureref30_Purge k' s0 values1 = some r := by
  intro k k' s0 values1 r hk h
  unfold erasureref30_Purge at h ⊢
  obtain ⟨y_1, e_2, h⟩ := bind_or h
  refine bnd (erasureref30_Valid.mono _ _ _ _ hk e_2) ?_
  rcases ite_or h with ⟨g_3, h⟩ | ⟨g_3, h⟩
  · refine itp g_3 ?_
    exact h
  · refine itn g_3 ?_
    exact erasureref30_Purge.p1.mono _ _ _ _ _ r hk h
theorem erasureref30_Purge.spec {k : Nat} {s0 : (List TCached)} {values1 : (List TValue)} {r : (List TCached)} (h : erasureref30_Purge k s0 values1 = some r) : Spec Try.prog 24 [.p (eL 5 cCached dCached s0), .p (eL 3 cValue dValue values1)] (.p ((eL 5 cCached dCached r))) [] :=
  spec_of mix Try.func24 (body := bodyOf Try.f24) (by kernel_rfl) (by kernel_rfl) (erasureref30_Purge.run h)
end Go.Proofs.YtjhnpaenhdbhpabV
set_option linter.unusedVariables false
set_option linter.unusedSimpArgs false
set_option maxRecDepth 100000
namespace Go.Proofs.YtjhnpaenhdbhpabV
open Go Go.RowKit
noncomputable def erasurelaw30_CacheRaw  (k : Nat) (c0 : TCache) (s1 : (List TCached)) (a2 : TAct) : Option Bool := (erasurelaw30_small k s1).bind fun y_1 => (if (!y_1) = true then ((erasurelaw30_awake k ).bind fun y_4 => (some y_4)) else ((cache_Lookup k c0 s1 ([(TEntry.mk ([a2.f1]) 1)]) a2.f1 a2.f2).bind fun y_6 => ((erasureref30_Lookup k c0 s1 ([(TEntry.mk ([a2.f1]) 1)]) a2.f1 a2.f2).bind fun y_8 => ((cache_Valid k s1).bind fun y_10 => ((erasureref30_Valid k s1).bind fun y_12 => (if (y_10 == y_12) = true then (if (y_6.2.2 == y_8.2.2) = true then ((erasureref30_Same k y_6.1 y_8.1).bind fun y_16 => (if y_16 = true then ((erasureref26_SameBag k y_6.2.1 y_8.2.1).bind fun y_19 => (if y_19 = true then ((cache_Refill k c0 s1 ([(TEntry.mk ([a2.f1]) 1)]) a2.f2).bind fun y_22 => ((erasureref30_Refill k c0 s1 ([(TEntry.mk ([a2.f1]) 1)]) a2.f2).bind fun y_24 => ((erasureref30_Same k y_22 y_24).bind fun y_26 => (if y_26 = true then ((cache_Purge k s1 ([a2.f1])).bind fun y_29 => ((erasureref30_Purge k s1 ([a2.f1])).bind fun y_31 => ((erasureref30_Same k y_29 y_31).bind fun y_33 => (if y_33 = true then ((cache_Expire k c0 s1 a2.f2).bind fun y_36 => ((erasureref30_Expire k c0 s1 a2.f2).bind fun y_38 => ((erasureref30_Same k y_36 y_38).bind fun y_40 => (if y_40 = true then ((cache_Fresh k c0 s1 ([(TEntry.mk ([a2.f1]) 1)])).bind fun y_43 => ((erasureref30_Fresh k c0 s1 ([(TEntry.mk ([a2.f1]) 1)])).bind fun y_45 => (if (y_43 == y_45) = true then ((erasurelaw30_awake k ).bind fun y_48 => (some y_48)) else (some false)))) else (some false))))) else (some false))))) else (some false))))) else (some false))) else (some false))) else (some false)) else (some false)))))))
noncomputable def erasurelaw30_CacheRaw.t : List Item := [.code (bodyOf Try.f7)]
noncomputable def erasurelaw30_CacheRaw.s (c0 : TCache) (s1 : (List TCached)) (a2 : TAct) : St := ⟨frOf Try.f7.ntmps 0 [(0, .agg ((cCache c0).map .p)), (1, .p (eL 5 cCached dCached s1)), (2, .agg ((cAct a2).map .p))], []⟩
theorem erasurelaw30_CacheRaw.run   {k : Nat} {c0 : TCache} {s1 : (List TCached)} {a2 : TAct} {r : Bool} (h : erasurelaw30_CacheRaw k c0 s1 a2 = some r) : RunC Try.prog Try.f7 erasurelaw30_CacheRaw.t (erasurelaw30_CacheRaw.s c0 s1 a2) (.p (.bool r)) [] := by
  unfold erasurelaw30_CacheRaw at h
  obtain ⟨y_1, e_2, h⟩ := bind_or h
  rcases ite_or h with ⟨g_3, h⟩ | ⟨g_3, h⟩
  · obtain ⟨y_4, e_5, h⟩ := bind_or h
    obtain rfl := Option.some.inj h
    exact RunC.out [.n 4, .r [(1, .call (.p (.bool y_1)) []), (2, .dec true)], .n 2, .r [(0, .call (.p (.bool y_4)) [])]] (by kernel_rfl) (Obs.of (by kernel_rfl) (And.intro (erasurelaw30_small.spec e_2) (And.intro g_3 (erasurelaw30_awake.spec e_5))))
  · obtain ⟨y_6, e_7, h⟩ := bind_or h
    obtain ⟨y_8, e_9, h⟩ := bind_or h
    obtain ⟨y_10, e_11, h⟩ := bind_or h
    obtain ⟨y_12, e_13, h⟩ := bind_or h
    rcases ite_or h with ⟨g_14, h⟩ | ⟨g_14, h⟩
    · rcases ite_or h with ⟨g_15, h⟩ | ⟨g_15, h⟩
      · obtain ⟨y_16, e_17, h⟩ := bind_or h
        rcases ite_or h with ⟨g_18, h⟩ | ⟨g_18, h⟩
        · obtain ⟨y_19, e_20, h⟩ := bind_or h
          rcases ite_or h with ⟨g_21, h⟩ | ⟨g_21, h⟩
          · obtain ⟨y_22, e_23, h⟩ := bind_or h
            obtain ⟨y_24, e_25, h⟩ := bind_or h
            obtain ⟨y_26, e_27, h⟩ := bind_or h
            rcases ite_or h with ⟨g_28, h⟩ | ⟨g_28, h⟩
            · obtain ⟨y_29, e_30, h⟩ := bind_or h
              obtain ⟨y_31, e_32, h⟩ := bind_or h
              obtain ⟨y_33, e_34, h⟩ := bind_or h
              rcases ite_or h with ⟨g_35, h⟩ | ⟨g_35, h⟩
              · obtain ⟨y_36, e_37, h⟩ := bind_or h
                obtain ⟨y_38, e_39, h⟩ := bind_or h
                obtain ⟨y_40, e_41, h⟩ := bind_or h
                rcases ite_or h with ⟨g_42, h⟩ | ⟨g_42, h⟩
                · obtain ⟨y_43, e_44, h⟩ := bind_or h
                  obtain ⟨y_45, e_46, h⟩ := bind_or h
                  rcases ite_or h with ⟨g_47, h⟩ | ⟨g_47, h⟩
                  · obtain ⟨y_48, e_49, h⟩ := bind_or h
                    obtain rfl := Option.some.inj h
                    exact RunC.out [.n 4, .r [(1, .call (.p (.bool y_1)) []), (2, .dec false)], .n 3, .r [(2, .obj (oL true 24 3 cValue dValue [a2.f1])), (4, .obj (oL true 36 2 cEntry dEntry [(TEntry.mk ([a2.f1]) 1)]))], .n 1, .r [(7, .call (.tup [.sref 0 46 5 (y_6.1).length, .sref 1 36 2 (y_6.2.1).length, .p (.int .i64 y_6.2.2)]) [(oL true 46 5 cCached dCached y_6.1), (oL true 36 2 cEntry dEntry y_6.2.1)])], .n 1, .r [(7, .call (.tup [.sref 0 46 5 (y_8.1).length, .p (eL 2 cEntry dEntry y_8.2.1), .p (.int .i64 y_8.2.2)]) [(oL true 46 5 cCached dCached y_8.1)])], .n 1, .r [(2, .obj (oL true 24 3 cValue dValue [a2.f1]))], .n 1, .r [(1, .call (.p (.bool y_10)) []), (3, .call (.p (.bool y_12)) []), (5, .dec true), (10, .dec true), (13, .call (.p (.bool y_16)) []), (15, .dec true), (18, .call (.p (.bool y_19)) []), (20, .dec true), (26, .call (.sref 0 46 5 (y_22).length) [(oL true 46 5 cCached dCached y_22)]), (32, .call (.sref 0 46 5 (y_24).length) [(oL true 46 5 cCached dCached y_24)]), (33, .call (.p (.bool y_26)) []), (35, .dec true), (38, .call (.sref 0 46 5 (y_29).length) [(oL true 46 5 cCached dCached y_29)]), (41, .call (.p (eL 5 cCached dCached y_31)) []), (42, .call (.p (.bool y_33)) []), (44, .dec true), (49, .call (.sref 0 46 5 (y_36).length) [(oL true 46 5 cCached dCached y_36)]), (54, .call (.sref 0 46 5 (y_38).length) [(oL true 46 5 cCached dCached y_38)]), (55, .call (.p (.bool y_40)) []), (57, .dec true), (61, .call (.p (.bool y_43)) []), (65, .call (.p (.bool y_45)) []), (68, .dec true), (69, .call (.p (.bool y_48)) [])]] (by kernel_rfl) (Obs.of (by kernel_rfl) (And.intro (erasurelaw30_small.spec e_2) (And.intro (nt g_3) (And.intro (le_one 24 3 cValue dValue a2.f1) (And.intro (le_one 36 2 cEntry dEntry (TEntry.mk ([a2.f1]) 1)) (And.intro (cache_Lookup.spec e_7) (And.intro (erasureref30_Lookup.spec e_9) (And.intro (le_one 24 3 cValue dValue a2.f1) (And.intro (cache_Valid.spec e_11) (And.intro (erasureref30_Valid.spec e_13) (And.intro g_14 (And.intro g_15 (And.intro (erasureref30_Same.spec e_17) (And.intro g_18 (And.intro (erasureref26_SameBag.spec e_20) (And.intro g_21 (And.intro (cache_Refill.spec e_23) (And.intro (erasureref30_Refill.spec e_25) (And.intro (erasureref30_Same.spec e_27) (And.intro g_28 (And.intro (cache_Purge.spec e_30) (And.intro (erasureref30_Purge.spec e_32) (And.intro (erasureref30_Same.spec e_34) (And.intro g_35 (And.intro (cache_Expire.spec e_37) (And.intro (erasureref30_Expire.spec e_39) (And.intro (erasureref30_Same.spec e_41) (And.intro g_42 (And.intro (cache_Fresh.spec e_44) (And.intro (erasureref30_Fresh.spec e_46) (And.intro g_47 (erasurelaw30_awake.spec e_49))))))))))))))))))))))))))))))))
                  · obtain rfl := Option.some.inj h
                    exact RunC.out [.n 4, .r [(1, .call (.p (.bool y_1)) []), (2, .dec false)], .n 3, .r [(2, .obj (oL true 24 3 cValue dValue [a2.f1])), (4, .obj (oL true 36 2 cEntry dEntry [(TEntry.mk ([a2.f1]) 1)]))], .n 1, .r [(7, .call (.tup [.sref 0 46 5 (y_6.1).length, .sref 1 36 2 (y_6.2.1).length, .p (.int .i64 y_6.2.2)]) [(oL true 46 5 cCached dCached y_6.1), (oL true 36 2 cEntry dEntry y_6.2.1)])], .n 1, .r [(7, .call (.tup [.sref 0 46 5 (y_8.1).length, .p (eL 2 cEntry dEntry y_8.2.1), .p (.int .i64 y_8.2.2)]) [(oL true 46 5 cCached dCached y_8.1)])], .n 1, .r [(2, .obj (oL true 24 3 cValue dValue [a2.f1]))], .n 1, .r [(1, .call (.p (.bool y_10)) []), (3, .call (.p (.bool y_12)) []), (5, .dec true), (10, .dec true), (13, .call (.p (.bool y_16)) []), (15, .dec true), (18, .call (.p (.bool y_19)) []), (20, .dec true), (26, .call (.sref 0 46 5 (y_22).length) [(oL true 46 5 cCached dCached y_22)]), (32, .call (.sref 0 46 5 (y_24).length) [(oL true 46 5 cCached dCached y_24)]), (33, .call (.p (.bool y_26)) []), (35, .dec true), (38, .call (.sref 0 46 5 (y_29).length) [(oL true 46 5 cCached dCached y_29)]), (41, .call (.p (eL 5 cCached dCached y_31)) []), (42, .call (.p (.bool y_33)) []), (44, .dec true), (49, .call (.sref 0 46 5 (y_36).length) [(oL true 46 5 cCached dCached y_36)]), (54, .call (.sref 0 46 5 (y_38).length) [(oL true 46 5 cCached dCached y_38)]), (55, .call (.p (.bool y_40)) []), (57, .dec true), (61, .call (.p (.bool y_43)) []), (65, .call (.p (.bool y_45)) []), (68, .dec false)]] (by kernel_rfl) (Obs.of (by kernel_rfl) (And.intro (erasurelaw30_small.spec e_2) (And.intro (nt g_3) (And.intro (le_one 24 3 cValue dValue a2.f1) (And.intro (le_one 36 2 cEntry dEntry (TEntry.mk ([a2.f1]) 1)) (And.intro (cache_Lookup.spec e_7) (And.intro (erasureref30_Lookup.spec e_9) (And.intro (le_one 24 3 cValue dValue a2.f1) (And.intro (cache_Valid.spec e_11) (And.intro (erasureref30_Valid.spec e_13) (And.intro g_14 (And.intro g_15 (And.intro (erasureref30_Same.spec e_17) (And.intro g_18 (And.intro (erasureref26_SameBag.spec e_20) (And.intro g_21 (And.intro (cache_Refill.spec e_23) (And.intro (erasureref30_Refill.spec e_25) (And.intro (erasureref30_Same.spec e_27) (And.intro g_28 (And.intro (cache_Purge.spec e_30) (And.intro (erasureref30_Purge.spec e_32) (And.intro (erasureref30_Same.spec e_34) (And.intro g_35 (And.intro (cache_Expire.spec e_37) (And.intro (erasureref30_Expire.spec e_39) (And.intro (erasureref30_Same.spec e_41) (And.intro g_42 (And.intro (cache_Fresh.spec e_44) (And.intro (erasureref30_Fresh.spec e_46) (nt g_47)))))))))))))))))))))))))))))))
                · obtain rfl := Option.some.inj h
                  exact RunC.out [.n 4, .r [(1, .call (.p (.bool y_1)) []), (2, .dec false)], .n 3, .r [(2, .obj (oL true 24 3 cValue dValue [a2.f1])), (4, .obj (oL true 36 2 cEntry dEntry [(TEntry.mk ([a2.f1]) 1)]))], .n 1, .r [(7, .call (.tup [.sref 0 46 5 (y_6.1).length, .sref 1 36 2 (y_6.2.1).length, .p (.int .i64 y_6.2.2)]) [(oL true 46 5 cCached dCached y_6.1), (oL true 36 2 cEntry dEntry y_6.2.1)])], .n 1, .r [(7, .call (.tup [.sref 0 46 5 (y_8.1).length, .p (eL 2 cEntry dEntry y_8.2.1), .p (.int .i64 y_8.2.2)]) [(oL true 46 5 cCached dCached y_8.1)])], .n 1, .r [(2, .obj (oL true 24 3 cValue dValue [a2.f1]))], .n 1, .r [(1, .call (.p (.bool y_10)) []), (3, .call (.p (.bool y_12)) []), (5, .dec true), (10, .dec true), (13, .call (.p (.bool y_16)) []), (15, .dec true), (18, .call (.p (.bool y_19)) []), (20, .dec true), (26, .call (.sref 0 46 5 (y_22).length) [(oL true 46 5 cCached dCached y_22)]), (32, .call (.sref 0 46 5 (y_24).length) [(oL true 46 5 cCached dCached y_24)]), (33, .call (.p (.bool y_26)) []), (35, .dec true), (38, .call (.sref 0 46 5 (y_29).length) [(oL true 46 5 cCached dCached y_29)]), (41, .call (.p (eL 5 cCached dCached y_31)) []), (42, .call (.p (.bool y_33)) []), (44, .dec true), (49, .call (.sref 0 46 5 (y_36).length) [(oL true 46 5 cCached dCached y_36)]), (54, .call (.sref 0 46 5 (y_38).length) [(oL true 46 5 cCached dCached y_38)]), (55, .call (.p (.bool y_40)) []), (57, .dec false)]] (by kernel_rfl) (Obs.of (by kernel_rfl) (And.intro (erasurelaw30_small.spec e_2) (And.intro (nt g_3) (And.intro (le_one 24 3 cValue dValue a2.f1) (And.intro (le_one 36 2 cEntry dEntry (TEntry.mk ([a2.f1]) 1)) (And.intro (cache_Lookup.spec e_7) (And.intro (erasureref30_Lookup.spec e_9) (And.intro (le_one 24 3 cValue dValue a2.f1) (And.intro (cache_Valid.spec e_11) (And.intro (erasureref30_Valid.spec e_13) (And.intro g_14 (And.intro g_15 (And.intro (erasureref30_Same.spec e_17) (And.intro g_18 (And.intro (erasureref26_SameBag.spec e_20) (And.intro g_21 (And.intro (cache_Refill.spec e_23) (And.intro (erasureref30_Refill.spec e_25) (And.intro (erasureref30_Same.spec e_27) (And.intro g_28 (And.intro (cache_Purge.spec e_30) (And.intro (erasureref30_Purge.spec e_32) (And.intro (erasureref30_Same.spec e_34) (And.intro g_35 (And.intro (cache_Expire.spec e_37) (And.intro (erasureref30_Expire.spec e_39) (And.intro (erasureref30_Same.spec e_41) (nt g_42))))))))))))))))))))))))))))
              · obtain rfl := Option.some.inj h
                exact RunC.out [.n 4, .r [(1, .call (.p (.bool y_1)) []), (2, .dec false)], .n 3, .r [(2, .obj (oL true 24 3 cValue dValue [a2.f1])), (4, .obj (oL true 36 2 cEntry dEntry [(TEntry.mk ([a2.f1]) 1)]))], .n 1, .r [(7, .call (.tup [.sref 0 46 5 (y_6.1).length, .sref 1 36 2 (y_6.2.1).length, .p (.int .i64 y_6.2.2)]) [(oL true 46 5 cCached dCached y_6.1), (oL true 36 2 cEntry dEntry y_6.2.1)])], .n 1, .r [(7, .call (.tup [.sref 0 46 5 (y_8.1).length, .p (eL 2 cEntry dEntry y_8.2.1), .p (.int .i64 y_8.2.2)]) [(oL true 46 5 cCached dCached y_8.1)])], .n 1, .r [(2, .obj (oL true 24 3 cValue dValue [a2.f1]))], .n 1, .r [(1, .call (.p (.bool y_10)) []), (3, .call (.p (.bool y_12)) []), (5, .dec true), (10, .dec true), (13, .call (.p (.bool y_16)) []), (15, .dec true), (18, .call (.p (.bool y_19)) []), (20, .dec true), (26, .call (.sref 0 46 5 (y_22).length) [(oL true 46 5 cCached dCached y_22)]), (32, .call (.sref 0 46 5 (y_24).length) [(oL true 46 5 cCached dCached y_24)]), (33, .call (.p (.bool y_26)) []), (35, .dec true), (38, .call (.sref 0 46 5 (y_29).length) [(oL true 46 5 cCached dCached y_29)]), (41, .call (.p (eL 5 cCached dCached y_31)) []), (42, .call (.p (.bool y_33)) []), (44, .dec false)]] (by kernel_rfl) (Obs.of (by kernel_rfl) (And.intro (erasurelaw30_small.spec e_2) (And.intro (nt g_3) (And.intro (le_one 24 3 cValue dValue a2.f1) (And.intro (le_one 36 2 cEntry dEntry (TEntry.mk ([a2.f1]) 1)) (And.intro (cache_Lookup.spec e_7) (And.intro (erasureref30_Lookup.spec e_9) (And.intro (le_one 24 3 cValue dValue a2.f1) (And.intro (cache_Valid.spec e_11) (And.intro (erasureref30_Valid.spec e_13) (And.intro g_14 (And.intro g_15 (And.intro (erasureref30_Same.spec e_17) (And.intro g_18 (And.intro (erasureref26_SameBag.spec e_20) (And.intro g_21 (And.intro (cache_Refill.spec e_23) (And.intro (erasureref30_Refill.spec e_25) (And.intro (erasureref30_Same.spec e_27) (And.intro g_28 (And.intro (cache_Purge.spec e_30) (And.intro (erasureref30_Purge.spec e_32) (And.intro (erasureref30_Same.spec e_34) (nt g_35))))))))))))))))))))))))
            · obtain rfl := Option.some.inj h
              exact RunC.out [.n 4, .r [(1, .call (.p (.bool y_1)) []), (2, .dec false)], .n 3, .r [(2, .obj (oL true 24 3 cValue dValue [a2.f1])), (4, .obj (oL true 36 2 cEntry dEntry [(TEntry.mk ([a2.f1]) 1)]))], .n 1, .r [(7, .call (.tup [.sref 0 46 5 (y_6.1).length, .sref 1 36 2 (y_6.2.1).length, .p (.int .i64 y_6.2.2)]) [(oL true 46 5 cCached dCached y_6.1), (oL true 36 2 cEntry dEntry y_6.2.1)])], .n 1, .r [(7, .call (.tup [.sref 0 46 5 (y_8.1).length, .p (eL 2 cEntry dEntry y_8.2.1), .p (.int .i64 y_8.2.2)]) [(oL true 46 5 cCached dCached y_8.1)])], .n 1, .r [(2, .obj (oL true 24 3 cValue dValue [a2.f1]))], .n 1, .r [(1, .call (.p (.bool y_10)) []), (3, .call (.p (.bool y_12)) []), (5, .dec true), (10, .dec true), (13, .call (.p (.bool y_16)) []), (15, .dec true), (18, .call (.p (.bool y_19)) []), (20, .dec true), (26, .call (.sref 0 46 5 (y_22).length) [(oL true 46 5 cCached dCached y_22)]), (32, .call (.sref 0 46 5 (y_24).length) [(oL true 46 5 cCached dCached y_24)]), (33, .call (.p (.bool y_26)) []), (35, .dec false)]] (by kernel_rfl) (Obs.of (by kernel_rfl) (And.intro (erasurelaw30_small.spec e_2) (And.intro (nt g_3) (And.intro (le_one 24 3 cValue dValue a2.f1) (And.intro (le_one 36 2 cEntry dEntry (TEntry.mk ([a2.f1]) 1)) (And.intro (cache_Lookup.spec e_7) (And.intro (erasureref30_Lookup.spec e_9) (And.intro (le_one 24 3 cValue dValue a2.f1) (And.intro (cache_Valid.spec e_11) (And.intro (erasureref30_Valid.spec e_13) (And.intro g_14 (And.intro g_15 (And.intro (erasureref30_Same.spec e_17) (And.intro g_18 (And.intro (erasureref26_SameBag.spec e_20) (And.intro g_21 (And.intro (cache_Refill.spec e_23) (And.intro (erasureref30_Refill.spec e_25) (And.intro (erasureref30_Same.spec e_27) (nt g_28))))))))))))))))))))
          · obtain rfl := Option.some.inj h
            exact RunC.out [.n 4, .r [(1, .call (.p (.bool y_1)) []), (2, .dec false)], .n 3, .r [(2, .obj (oL true 24 3 cValue dValue [a2.f1])), (4, .obj (oL true 36 2 cEntry dEntry [(TEntry.mk ([a2.f1]) 1)]))], .n 1, .r [(7, .call (.tup [.sref 0 46 5 (y_6.1).length, .sref 1 36 2 (y_6.2.1).length, .p (.int .i64 y_6.2.2)]) [(oL true 46 5 cCached dCached y_6.1), (oL true 36 2 cEntry dEntry y_6.2.1)])], .n 1, .r [(7, .call (.tup [.sref 0 46 5 (y_8.1).length, .p (eL 2 cEntry dEntry y_8.2.1), .p (.int .i64 y_8.2.2)]) [(oL true 46 5 cCached dCached y_8.1)])], .n 1, .r [(2, .obj (oL true 24 3 cValue dValue [a2.f1]))], .n 1, .r [(1, .call (.p (.bool y_10)) []), (3, .call (.p (.bool y_12)) []), (5, .dec true), (10, .dec true), (13, .call (.p (.bool y_16)) []), (15, .dec true), (18, .call (.p (.bool y_19)) []), (20, .dec false)]] (by kernel_rfl) (Obs.of (by kernel_rfl) (And.intro (erasurelaw30_small.spec e_2) (And.intro (nt g_3) (And.intro (le_one 24 3 cValue dValue a2.f1) (And.intro (le_one 36 2 cEntry dEntry (TEntry.mk ([a2.f1]) 1)) (And.intro (cache_Lookup.spec e_7) (And.intro (erasureref30_Lookup.spec e_9) (And.intro (le_one 24 3 cValue dValue a2.f1) (And.intro (cache_Valid.spec e_11) (And.intro (erasureref30_Valid.spec e_13) (And.intro g_14 (And.intro g_15 (And.intro (erasureref30_Same.spec e_17) (And.intro g_18 (And.intro (erasureref26_SameBag.spec e_20) (nt g_21))))))))))))))))
        · obtain rfl := Option.some.inj h
          exact RunC.out [.n 4, .r [(1, .call (.p (.bool y_1)) []), (2, .dec false)], .n 3, .r [(2, .obj (oL true 24 3 cValue dValue [a2.f1])), (4, .obj (oL true 36 2 cEntry dEntry [(TEntry.mk ([a2.f1]) 1)]))], .n 1, .r [(7, .call (.tup [.sref 0 46 5 (y_6.1).length, .sref 1 36 2 (y_6.2.1).length, .p (.int .i64 y_6.2.2)]) [(oL true 46 5 cCached dCached y_6.1), (oL true 36 2 cEntry dEntry y_6.2.1)])], .n 1, .r [(7, .call (.tup [.sref 0 46 5 (y_8.1).length, .p (eL 2 cEntry dEntry y_8.2.1), .p (.int .i64 y_8.2.2)]) [(oL true 46 5 cCached dCached y_8.1)])], .n 1, .r [(2, .obj (oL true 24 3 cValue dValue [a2.f1]))], .n 1, .r [(1, .call (.p (.bool y_10)) []), (3, .call (.p (.bool y_12)) []), (5, .dec true), (10, .dec true), (13, .call (.p (.bool y_16)) []), (15, .dec false)]] (by kernel_rfl) (Obs.of (by kernel_rfl) (And.intro (erasurelaw30_small.spec e_2) (And.intro (nt g_3) (And.intro (le_one 24 3 cValue dValue a2.f1) (And.intro (le_one 36 2 cEntry dEntry (TEntry.mk ([a2.f1]) 1)) (And.intro (cache_Lookup.spec e_7) (And.intro (erasureref30_Lookup.spec e_9) (And.intro (le_one 24 3 cValue dValue a2.f1) (And.intro (cache_Valid.spec e_11) (And.intro (erasureref30_Valid.spec e_13) (And.intro g_14 (And.intro g_15 (And.intro (erasureref30_Same.spec e_17) (nt g_18))))))))))))))
      · obtain rfl := Option.some.inj h
        exact RunC.out [.n 4, .r [(1, .call (.p (.bool y_1)) []), (2, .dec false)], .n 3, .r [(2, .obj (oL true 24 3 cValue dValue [a2.f1])), (4, .obj (oL true 36 2 cEntry dEntry [(TEntry.mk ([a2.f1]) 1)]))], .n 1, .r [(7, .call (.tup [.sref 0 46 5 (y_6.1).length, .sref 1 36 2 (y_6.2.1).length, .p (.int .i64 y_6.2.2)]) [(oL true 46 5 cCached dCached y_6.1), (oL true 36 2 cEntry dEntry y_6.2.1)])], .n 1, .r [(7, .call (.tup [.sref 0 46 5 (y_8.1).length, .p (eL 2 cEntry dEntry y_8.2.1), .p (.int .i64 y_8.2.2)]) [(oL true 46 5 cCached dCached y_8.1)])], .n 1, .r [(2, .obj (oL true 24 3 cValue dValue [a2.f1]))], .n 1, .r [(1, .call (.p (.bool y_10)) []), (3, .call (.p (.bool y_12)) []), (5, .dec true), (10, .dec false)]] (by kernel_rfl) (Obs.of (by kernel_rfl) (And.intro (erasurelaw30_small.spec e_2) (And.intro (nt g_3) (And.intro (le_one 24 3 cValue dValue a2.f1) (And.intro (le_one 36 2 cEntry dEntry (TEntry.mk ([a2.f1]) 1)) (And.intro (cache_Lookup.spec e_7) (And.intro (erasureref30_Lookup.spec e_9) (And.intro (le_one 24 3 cValue dValue a2.f1) (And.intro (cache_Valid.spec e_11) (And.intro (erasureref30_Valid.spec e_13) (And.intro g_14 (nt g_15))))))))))))
    · obtain rfl := Option.some.inj h
      exact RunC.out [.n 4, .r [(1, .call (.p (.bool y_1)) []), (2, .dec false)], .n 3, .r [(2, .obj (oL true 24 3 cValue dValue [a2.f1])), (4, .obj (oL true 36 2 cEntry dEntry [(TEntry.mk ([a2.f1]) 1)]))], .n 1, .r [(7, .call (.tup [.sref 0 46 5 (y_6.1).length, .sref 1 36 2 (y_6.2.1).length, .p (.int .i64 y_6.2.2)]) [(oL true 46 5 cCached dCached y_6.1), (oL true 36 2 cEntry dEntry y_6.2.1)])], .n 1, .r [(7, .call (.tup [.sref 0 46 5 (y_8.1).length, .p (eL 2 cEntry dEntry y_8.2.1), .p (.int .i64 y_8.2.2)]) [(oL true 46 5 cCached dCached y_8.1)])], .n 1, .r [(2, .obj (oL true 24 3 cValue dValue [a2.f1]))], .n 1, .r [(1, .call (.p (.bool y_10)) []), (3, .call (.p (.bool y_12)) []), (5, .dec false)]] (by kernel_rfl) (Obs.of (by kernel_rfl) (And.intro (erasurelaw30_small.spec e_2) (And.intro (nt g_3) (And.intro (le_one 24 3 cValue dValue a2.f1) (And.intro (le_one 36 2 cEntry dEntry (TEntry.mk ([a2.f1]) 1)) (And.intro (cache_Lookup.spec e_7) (And.intro (erasureref30_Lookup.spec e_9) (And.intro (le_one 24 3 cValue dValue a2.f1) (And.intro (cache_Valid.spec e_11) (And.intro (erasureref30_Valid.spec e_13) (nt g_14)))))))))))
theorem erasurelaw30_CacheRaw.mono   : ∀ (k k' : Nat) (c0 : TCache) (s1 : (List TCached)) (a2 : TAct) (r : Bool), k ≤ k' → erasurelaw30_CacheRaw k c0 s1 a2 = some r → erasurelaw30_CacheRaw k' c0 s1 a2 = some r := by
  intro k k' c0 s1 a2 r hk h
  unfold erasurelaw30_CacheRaw at h ⊢
  obtain ⟨y_1, e_2, h⟩ := bind_or h
  refine bnd (erasurelaw30_small.mono _ _ _ _ hk e_2) ?_
  rcases ite_or h with ⟨g_3, h⟩ | ⟨g_3, h⟩
  · refine itp g_3 ?_
    obtain ⟨y_4, e_5, h⟩ := bind_or h
    refine bnd (erasurelaw30_awake.mono _ _  _ hk e_5) ?_
    exact h
  · refine itn g_3 ?_
    obtain ⟨y_6, e_7, h⟩ := bind_or h
    refine bnd (cache_Lookup.mono _ _ _ _ _ _ _ _ hk e_7) ?_
    obtain ⟨y_8, e_9, h⟩ := bind_or h
    refine bnd (erasureref30_Lookup.mono _ _ _ _ _ _ _ _ hk e_9) ?_
    obtain ⟨y_10, e_11, h⟩ := bind_or h
    refine bnd (cache_Valid.mono _ _ _ _ hk e_11) ?_
    obtain ⟨y_12, e_13, h⟩ := bind_or h
    refine bnd (erasureref30_Valid.mono _ _ _ _ hk e_13) ?_
    rcases ite_or h with ⟨g_14, h⟩ | ⟨g_14, h⟩
    · refine itp g_14 ?_
      rcases ite_or h with ⟨g_15, h⟩ | ⟨g_15, h⟩
      · refine itp g_15 ?_
        obtain ⟨y_16, e_17, h⟩ := bind_or h
        refine bnd (erasureref30_Same.mono _ _ _ _ _ hk e_17) ?_
        rcases ite_or h with ⟨g_18, h⟩ | ⟨g_18, h⟩
        · refine itp g_18 ?_
          obtain ⟨y_19, e_20, h⟩ := bind_or h
          refine bnd (erasureref26_SameBag.mono _ _ _ _ _ hk e_20) ?_
          rcases ite_or h with ⟨g_21, h⟩ | ⟨g_21, h⟩
          · refine itp g_21 ?_
            obtain ⟨y_22, e_23, h⟩ := bind_or h
            refine bnd (cache_Refill.mono _ _ _ _ _ _ _ hk e_23) ?_
            obtain ⟨y_24, e_25, h⟩ := bind_or h
            refine bnd (erasureref30_Refill.mono _ _ _ _ _ _ _ hk e_25) ?_
            obtain ⟨y_26, e_27, h⟩ := bind_or h
            refine bnd (erasureref30_Same.mono _ _ _ _ _ hk e_27) ?_
            rcases ite_or h with ⟨g_28, h⟩ | ⟨g_28, h⟩
            · refine itp g_28 ?_
              obtain ⟨y_29, e_30, h⟩ := bind_or h
              refine bnd (cache_Purge.mono _ _ _ _ _ hk e_30) ?_
              obtain ⟨y_31, e_32, h⟩ := bind_or h
              refine bnd (erasureref30_Purge.mono _ _ _ _ _ hk e_32) ?_
              obtain ⟨y_33, e_34, h⟩ := bind_or h
              refine bnd (erasureref30_Same.mono _ _ _ _ _ hk e_34) ?_
              rcases ite_or h with ⟨g_35, h⟩ | ⟨g_35, h⟩
              · refine itp g_35 ?_
                obtain ⟨y_36, e_37, h⟩ := bind_or h
                refine bnd (cache_Expire.mono _ _ _ _ _ _ hk e_37) ?_
                obtain ⟨y_38, e_39, h⟩ := bind_or h
                refine bnd (erasureref30_Expire.mono _ _ _ _ _ _ hk e_39) ?_
                obtain ⟨y_40, e_41, h⟩ := bind_or h
                refine bnd (erasureref30_Same.mono _ _ _ _ _ hk e_41) ?_
                rcases ite_or h with ⟨g_42, h⟩ | ⟨g_42, h⟩
                · refine itp g_42 ?_
                  obtain ⟨y_43, e_44, h⟩ := bind_or h
                  refine bnd (cache_Fresh.mono _ _ _ _ _ _ hk e_44) ?_
                  obtain ⟨y_45, e_46, h⟩ := bind_or h
                  refine bnd (erasureref30_Fresh.mono _ _ _ _ _ _ hk e_46) ?_
                  rcases ite_or h with ⟨g_47, h⟩ | ⟨g_47, h⟩
                  · refine itp g_47 ?_
                    obtain ⟨y_48, e_49, h⟩ := bind_or h
                    refine bnd (erasurelaw30_awake.mono _ _  _ hk e_49) ?_
                    exact h
                  · refine itn g_47 ?_
                    exact h
                · refine itn g_42 ?_
                  exact h
              · refine itn g_35 ?_
                exact h
            · refine itn g_28 ?_
              exact h
          · refine itn g_21 ?_
            exact h
        · refine itn g_18 ?_
          exact h
      · refine itn g_15 ?_
        exact h
    · refine itn g_14 ?_
      exact h
theorem erasurelaw30_CacheRaw.spec {k : Nat} {c0 : TCache} {s1 : (List TCached)} {a2 : TAct} {r : Bool} (h : erasurelaw30_CacheRaw k c0 s1 a2 = some r) : Spec Try.prog 7 [.agg ((cCache c0).map .p), .p (eL 5 cCached dCached s1), .agg ((cAct a2).map .p)] (.p (.bool r)) [] :=
  spec_of mix Try.func7 (body := bodyOf Try.f7) (by kernel_rfl) (by kernel_rfl) (erasurelaw30_CacheRaw.run h)
end Go.Proofs.YtjhnpaenhdbhpabV
set_option linter.unusedVariables false
set_option linter.unusedSimpArgs false
namespace Go.Proofs.YtjhnpaenhdbhpabV
open Go Go.RowKit
def atV (row : List TValue) (c : Int) : TValue := if c < 0 then ⟨0, 0, ⟨#[]⟩⟩ else if c ≥ (row.length : Int) then ⟨0, 0, ⟨#[]⟩⟩ else clV (row.getD c.toNat dValue)
theorem cache_at_eq (k : Nat) (row : List TValue) (c : Int) : cache_at k row c = some (atV row c) := by
  unfold cache_at atV
  simp only [decide_eq_true_eq]
  by_cases h1 : c < 0
  · rw [if_pos h1, if_pos h1]
  rw [if_neg h1, if_neg h1]
  by_cases h2 : c ≥ (row.length : Int)
  · rw [if_pos h2, if_pos h2]
  rw [if_neg h2, if_neg h2, if_pos (by omega), value_Clean_eq]; rfl
def selS (l : List TEntry) (c : Int) (v : TValue) : List TEntry := l.filter fun e => decide (atV e.f0 c = v)
theorem copied_ev (l : List TEntry) (hl : l.length ≤ 1099511627776) (hr : ∀ e ∈ l, e.f0.length ≤ 1099511627776) : Ev (fun k => cache_copied k l) l := by
  unfold cache_copied
  have key : ∀ i, i ≤ l.length → ∀ acc : List TEntry, acc.length = i → Ev (fun k => cache_copied.p1 k l (i : Int) acc) (acc ++ l.drop i) := by
    refine loop_down (P := fun i => ∀ acc : List TEntry, acc.length = i → Ev (fun k => cache_copied.p1 k l (i : Int) acc) (acc ++ l.drop i)) l.length ?_ ?_
    · intro acc _
      refine Ev.succ ?_
      simp only [cache_copied.p1, decide_eq_true_eq]
      rw [List.drop_length]
      exact Ev.ite_neg (by omega) (Ev.done (by simp))
    · intro i hi ih acc ha
      refine Ev.succ ?_
      simp only [cache_copied.p1, decide_eq_true_eq]
      have hr1 := hr _ (getD_mem dEntry hi)
      refine Ev.ite_pos (by omega) (Ev.ite_pos (by omega) (Ev.ite_pos (by simp only [maxLen]; omega) (Ev.ite_pos (by simp only [maxLen, List.length_singleton]; omega) ?_)))
      rw [dE hi, wrn hi (by omega)]
      exact (ih (acc ++ [l.getD (i : Int).toNat dEntry]) (by simp [ha])).to (by simp)
  simpa using key 0 (by omega) [] rfl
theorem sel_ev (l : List TEntry) (c : Int) (v : TValue) (hl : l.length ≤ 1099511627776) (hr : ∀ e ∈ l, e.f0.length ≤ 1099511627776) : Ev (fun k => cache_Select k l c v) (selS l c (clV v)) := by
  unfold cache_Select
  simp only [value_Clean_eq, Option.bind_some]
  have key : ∀ i, i ≤ l.length → ∀ acc : List TEntry, acc.length ≤ i → (∀ e ∈ acc, e.f0.length ≤ 1099511627776) → Ev (fun k => cache_Select.p1 k l c (i : Int) (clV v) acc) (acc ++ selS (l.drop i) c (clV v)) := by
    refine loop_down (P := fun i => ∀ acc : List TEntry, acc.length ≤ i → (∀ e ∈ acc, e.f0.length ≤ 1099511627776) → Ev (fun k => cache_Select.p1 k l c (i : Int) (clV v) acc) (acc ++ selS (l.drop i) c (clV v))) l.length ?_ ?_
    · intro acc ha hr0
      refine Ev.succ ?_
      simp only [cache_Select.p1, decide_eq_true_eq]
      rw [List.drop_length]
      refine Ev.ite_neg (by omega) ?_
      simp only [selS, List.filter_nil, List.append_nil]
      exact Ev.bind (copied_ev acc (by omega) hr0) (Ev.now _)
    · intro i hi ih acc ha hr0
      refine Ev.succ ?_
      simp only [cache_Select.p1, cache_at_eq, Option.bind_some, eqV_iff, decide_eq_true_eq]
      refine Ev.ite_pos (by omega) (Ev.ite_pos (by omega) ?_)
      rw [dE hi, wrn hi (by omega)]
      by_cases h : atV (l.getD (i : Int).toNat dEntry).f0 c = clV v
      · refine Ev.ite_pos h (Ev.ite_pos (by simp only [maxLen, List.length_singleton]; omega) ?_)
        exact (ih (acc ++ [l.getD (i : Int).toNat dEntry]) (by simp; omega) (by intro e he; rcases List.mem_append.1 he with he | he; exact hr0 e he; rw [List.mem_singleton] at he; subst he; exact hr _ (getD_mem _ hi))).to (by simp only [selS, List.filter_cons, h, decide_true, if_true, List.append_assoc, List.singleton_append])
      · exact Ev.ite_neg h ((ih acc (by omega) hr0).to (by simp only [selS, List.filter_cons, h, decide_false, Bool.false_eq_true, if_false]))
  exact key 0 (by omega) [] (by simp) (by simp)
end Go.Proofs.YtjhnpaenhdbhpabV
set_option linter.unusedVariables false
set_option linter.unusedSimpArgs false
namespace Go.Proofs.YtjhnpaenhdbhpabV
open Go Go.RowKit
def okD (n : Int) : Bool := decide (0 ≤ n ∧ n ≤ 1048576)
theorem inDays_eq (k : Nat) (n : Int) : cache_inDays k n = some (okD n) := by
  unfold cache_inDays okD
  simp only [decide_eq_true_eq]
  by_cases h : n ≥ 0
  · rw [if_pos h]; simp; omega
  · rw [if_neg h]; simp; omega
def ctF : Option TCached → List TCached → Bool
  | _, [] => true
  | none, x :: l => okV x.f0 && (bagV x.f1 && (okD x.f2 && ctF (some x) l))
  | some p, x :: l => okV x.f0 && (decide (cmpV p.f0 x.f0 < 0) && (bagV x.f1 && (okD x.f2 && ctF (some x) l)))
def cacheV (l : List TCached) : Bool := ctF none l && decide (l.length ≤ 16)
def prevC (l : List TCached) (i : Nat) : Option TCached := if i = 0 then none else some (l.getD ((i - 1 : Nat) : Int).toNat dCached)
theorem dC {l : List TCached} {i : Nat} (h : i < l.length) : l.drop i = l.getD (i : Int).toNat dCached :: l.drop (i + 1) := drop_cons _ h
def FinC (l : List TCached) : Prop := l.length ≤ 9223372036854775807 ∧ ∀ x ∈ l, Fin x.f1
theorem cache_Valid_ev (l : List TCached) (hl : FinC l) : Ev (fun k => cache_Valid k l) (cacheV l) := by
  unfold cache_Valid cacheV
  simp only [decide_eq_true_eq]
  by_cases hn : l.length ≤ 16
  · rw [decide_eq_true hn, Bool.and_true]
    refine Ev.ite_neg (by omega) ?_
    refine (loop_down (P := fun i => Ev (fun k => cache_Valid.p1 k l (i : Int)) (ctF (prevC l i) (l.drop i))) l.length ?_ ?_ 0 (by omega))
    · refine Ev.succ ?_
      simp only [cache_Valid.p1, decide_eq_true_eq]
      rw [List.drop_length]
      refine Ev.ite_neg (by omega) (Ev.done ?_)
      cases prevC l l.length <;> rfl
    · intro i hi ih
      have hp : prevC l (i + 1) = some (l.getD (i : Int).toNat dCached) := by simp [prevC]
      rw [hp] at ih
      refine Ev.succ ?_
      simp only [cache_Valid.p1, decide_eq_true_eq, value_Valid_eq, value_Compare_eq, inDays_eq, Option.bind_some]
      refine Ev.ite_pos (by omega) (Ev.ite_pos (by omega) ?_)
      rw [dC hi, wrn hi hl.1]
      have hf := hl.2 _ (getD_mem dCached hi)
      have tail : Ev (fun k => (bag_Valid k ((l.getD (i : Int).toNat dCached).f1)).bind fun y_18 => (if (!y_18) = true then (some false) else (if (!okD ((l.getD (i : Int).toNat dCached).f2)) = true then (some false) else (cache_Valid.p1 k l ((i + 1 : Nat) : Int)))))
          (bagV (l.getD (i : Int).toNat dCached).f1 && (okD (l.getD (i : Int).toNat dCached).f2 && ctF (some (l.getD (i : Int).toNat dCached)) (l.drop (i + 1)))) := by
        refine Ev.bind (bag_Valid_ev _ hf) ?_
        cases hb : bagV (l.getD (i : Int).toNat dCached).f1 with
        | false => exact Ev.ite_pos rfl (Ev.now _)
        | true =>
          refine Ev.ite_neg (by simp) ?_
          cases hd : okD (l.getD (i : Int).toNat dCached).f2 with
          | false => exact Ev.ite_pos rfl (Ev.now _)
          | true => exact Ev.ite_neg (by simp) ih
      cases hv : okV (l.getD (i : Int).toNat dCached).f0 with
      | false => refine Ev.ite_pos rfl (Ev.done ?_); unfold ctF; cases prevC l i <;> simp only [hv, Bool.false_and]
      | true =>
        refine Ev.ite_neg (by simp) ?_
        by_cases h0 : i = 0
        · subst h0
          refine Ev.ite_neg (by omega) (tail.to ?_)
          simp only [prevC, if_true, ctF, hv, Bool.true_and]
        · have hl1 := hl.1
          rw [wrp (by omega) (by omega)]
          refine Ev.ite_pos (by omega) (Ev.ite_pos (by omega) ?_)
          simp only [prevC, if_neg h0, ctF, hv, Bool.true_and]
          by_cases hc : cmpV (l.getD ((i - 1 : Nat) : Int).toNat dCached).f0 (l.getD (i : Int).toNat dCached).f0 < 0
          · rw [decide_eq_true hc, Bool.true_and]; exact Ev.ite_neg (by omega) tail
          · rw [decide_eq_false hc, Bool.false_and]; exact Ev.ite_pos (by omega) (Ev.now _)
  · rw [decide_eq_false hn, Bool.and_false]
    exact Ev.ite_pos (by omega) (Ev.now _)
theorem ref30_Valid_ev (l : List TCached) (hl : FinC l) : Ev (fun k => erasureref30_Valid k l) (cacheV l) := by
  unfold erasureref30_Valid cacheV
  refine (loop_down (P := fun i => Ev (fun k => erasureref30_Valid.p1 k l (i : Int)) (ctF (prevC l i) (l.drop i) && decide (l.length ≤ 16))) l.length ?_ ?_ 0 (by omega))
  · refine Ev.succ ?_
    simp only [erasureref30_Valid.p1, decide_eq_true_eq]
    rw [List.drop_length]
    refine Ev.ite_neg (by omega) (Ev.done ?_)
    cases prevC l l.length <;> simp [ctF] <;> omega
  · intro i hi ih
    have hp : prevC l (i + 1) = some (l.getD (i : Int).toNat dCached) := by simp [prevC]
    rw [hp] at ih
    refine Ev.succ ?_
    simp only [erasureref30_Valid.p1, decide_eq_true_eq, ref01_Valid_eq, ref01_Compare_eq, Option.bind_some]
    refine Ev.ite_pos (by omega) (Ev.ite_pos (by omega) ?_)
    rw [dC hi, wrn hi hl.1]
    have hf := hl.2 _ (getD_mem dCached hi)
    have tail : Ev (fun k => (erasureref06_Valid k ((l.getD (i : Int).toNat dCached).f1)).bind fun y_16 => (if (!y_16) = true then (some false) else (if (l.getD (i : Int).toNat dCached).f2 < 0 then (some false) else (if (l.getD (i : Int).toNat dCached).f2 > 1048576 then (some false) else (erasureref30_Valid.p1 k l ((i + 1 : Nat) : Int))))))
        ((bagV (l.getD (i : Int).toNat dCached).f1 && (okD (l.getD (i : Int).toNat dCached).f2 && ctF (some (l.getD (i : Int).toNat dCached)) (l.drop (i + 1)))) && decide (l.length ≤ 16)) := by
      refine Ev.bind (ref06_Valid_ev _ hf) ?_
      cases hb : bagV (l.getD (i : Int).toNat dCached).f1 with
      | false => exact Ev.ite_pos rfl (Ev.now _)
      | true =>
        refine Ev.ite_neg (by simp) ?_
        by_cases hd : 0 ≤ (l.getD (i : Int).toNat dCached).f2 ∧ (l.getD (i : Int).toNat dCached).f2 ≤ 1048576
        · have e : okD (l.getD (i : Int).toNat dCached).f2 = true := decide_eq_true hd
          rw [e]
          exact Ev.ite_neg (by omega) (Ev.ite_neg (by omega) (ih.to (by simp only [Bool.true_and])))
        · have e : okD (l.getD (i : Int).toNat dCached).f2 = false := decide_eq_false hd
          rw [e]
          by_cases h1 : (l.getD (i : Int).toNat dCached).f2 < 0
          · exact Ev.ite_pos h1 (Ev.done (by simp))
          · exact Ev.ite_neg h1 (Ev.ite_pos (by omega) (Ev.done (by simp)))
    cases hv : okV (l.getD (i : Int).toNat dCached).f0 with
    | false => refine Ev.ite_pos rfl (Ev.done ?_); unfold ctF; cases prevC l i <;> simp only [hv, Bool.false_and]
    | true =>
      refine Ev.ite_neg (by simp) ?_
      by_cases h0 : i = 0
      · subst h0
        refine Ev.ite_neg (by omega) (tail.to ?_)
        simp only [prevC, if_true, ctF, hv, Bool.true_and]
      · have hl1 := hl.1
        rw [wrp (by omega) (by omega)]
        refine Ev.ite_pos (by omega) (Ev.ite_pos (by omega) ?_)
        simp only [prevC, if_neg h0, ctF, hv, Bool.true_and]
        by_cases hc : cmpV (l.getD ((i - 1 : Nat) : Int).toNat dCached).f0 (l.getD (i : Int).toNat dCached).f0 < 0
        · rw [decide_eq_true hc, Bool.true_and]; exact Ev.ite_neg (by omega) tail
        · rw [decide_eq_false hc, Bool.false_and, Bool.false_and]; exact Ev.ite_pos (by omega) (Ev.now _)
end Go.Proofs.YtjhnpaenhdbhpabV
set_option linter.unusedVariables false
set_option linter.unusedSimpArgs false
namespace Go.Proofs.YtjhnpaenhdbhpabV
open Go Go.RowKit
theorem bvF_mem : ∀ (l : List TEntry) (p : Option TEntry), bvF p l = true → ∀ e ∈ l, okE e = true
  | [], _, _, e, he => by cases he
  | x :: l, p, h, e, he => by
    have h1 : okE x = true ∧ bvF (some x) l = true := by
      cases p <;> simp only [bvF, Bool.and_eq_true] at h
      · exact ⟨h.1.1, h.2⟩
      · exact ⟨h.1.1.1, h.2⟩
    rcases List.mem_cons.1 he with rfl | he
    · exact h1.1
    · exact bvF_mem l _ h1.2 e he
theorem bagV_mem {l : List TEntry} (h : bagV l = true) : ∀ e ∈ l, okE e = true := by
  simp only [bagV, Bool.and_eq_true] at h
  exact bvF_mem l none h.1
theorem bagV_len {l : List TEntry} (h : bagV l = true) : l.length ≤ 4096 := by
  simp only [bagV, Bool.and_eq_true, decide_eq_true_eq] at h
  exact h.2
theorem okE_len {e : TEntry} (h : okE e = true) : e.f0.length ≤ 16 := by
  simp only [okE, okRow, Bool.and_eq_true, decide_eq_true_eq] at h
  exact h.1.2
theorem ctF_mem : ∀ (l : List TCached) (p : Option TCached), ctF p l = true → ∀ x ∈ l, okV x.f0 = true ∧ bagV x.f1 = true ∧ okD x.f2 = true
  | [], _, _, x, hx => by cases hx
  | y :: l, p, h, x, hx => by
    have h1 : (okV y.f0 = true ∧ bagV y.f1 = true ∧ okD y.f2 = true) ∧ ctF (some y) l = true := by
      cases p <;> simp only [ctF, Bool.and_eq_true] at h
      · exact ⟨⟨h.1, h.2.1, h.2.2.1⟩, h.2.2.2⟩
      · exact ⟨⟨h.1, h.2.2.1, h.2.2.2.1⟩, h.2.2.2.2⟩
    rcases List.mem_cons.1 hx with rfl | hx
    · exact h1.1
    · exact ctF_mem l _ h1.2 x hx
theorem cacheV_mem {l : List TCached} (h : cacheV l = true) : ∀ x ∈ l, okV x.f0 = true ∧ bagV x.f1 = true ∧ okD x.f2 = true := by
  simp only [cacheV, Bool.and_eq_true] at h
  exact ctF_mem l none h.1
theorem cacheV_len {l : List TCached} (h : cacheV l = true) : l.length ≤ 16 := by
  simp only [cacheV, Bool.and_eq_true, decide_eq_true_eq] at h
  exact h.2
theorem usable_ev (c : TCache) (l : List TCached) (rows : List TEntry) (d : Int) (hl : FinC l) (hr : Fin rows) : Ev (fun k => cache_usable k c l rows d) (cacheV l && (bagV rows && (okD c.f3 && okD d))) := by
  unfold cache_usable
  simp only [inDays_eq, Option.bind_some]
  refine Ev.bind (cache_Valid_ev l hl) ?_
  cases hv : cacheV l with
  | false => exact Ev.ite_neg (by simp) (Ev.now _)
  | true =>
    refine Ev.ite_pos rfl (Ev.bind (bag_Valid_ev rows hr) ?_)
    cases hb : bagV rows with
    | false => exact Ev.ite_neg (by simp) (Ev.now _)
    | true =>
      refine Ev.ite_pos rfl ?_
      cases ht : okD c.f3 with
      | false => exact Ev.ite_neg (by simp) (Ev.now _)
      | true => exact Ev.ite_pos rfl (Ev.now _)
end Go.Proofs.YtjhnpaenhdbhpabV
set_option linter.unusedVariables false
set_option linter.unusedSimpArgs false
namespace Go.Proofs.YtjhnpaenhdbhpabV
open Go Go.RowKit
def EvU {ρ α : Type} (c : ρ → Prop) (g : ρ → Nat → Option α) (r : α) : Prop := ∃ K, ∀ x, c x → ∀ k, K ≤ k → g x k = some r
theorem EvU.of {ρ α : Type} {c : ρ → Prop} {g : Nat → Option α} {r : α} (h : Ev g r) : EvU c (fun _ k => g k) r := by obtain ⟨K, h⟩ := h; exact ⟨K, fun _ _ k hk => h k hk⟩
theorem EvU.rec {ρ α : Type} {c : ρ → Prop} {g : ρ → Option α} {r : α} (h : ∀ x, c x → g x = some r) : EvU c (fun x _ => g x) r := ⟨0, fun x hx _ _ => h x hx⟩
theorem EvU.now {ρ α : Type} {c : ρ → Prop} (r : α) : EvU c (fun _ _ => some r) r := ⟨0, fun _ _ _ _ => rfl⟩
theorem EvU.done {ρ α : Type} {c : ρ → Prop} {a r : α} (h : a = r) : EvU c (fun _ _ => some a) r := by subst h; exact EvU.now _
theorem EvU.bind {ρ α β : Type} {c : ρ → Prop} {f : Nat → Option α} {g : ρ → Nat → α → Option β} {a : α} {r : β} (h : Ev f a) (h' : EvU c (fun x k => g x k a) r) : EvU c (fun x k => (f k).bind (g x k)) r := by
  obtain ⟨K, h⟩ := h; obtain ⟨L, h'⟩ := h'
  exact ⟨max K L, fun x hx k hk => by show (f k).bind (g x k) = some r; rw [h k (by omega)]; exact h' x hx k (by omega)⟩
theorem EvU.succ {ρ α : Type} {c : ρ → Prop} {g : ρ → Nat → Option α} {r : α} (h : EvU c (fun x k => g x (k + 1)) r) : EvU c g r := by
  obtain ⟨K, h⟩ := h
  exact ⟨K + 1, fun x hx k hk => by obtain ⟨m, rfl⟩ : ∃ m, k = m + 1 := ⟨k - 1, by omega⟩; exact h x hx m (by omega)⟩
theorem EvU.congr {ρ α : Type} {c : ρ → Prop} {f g : ρ → Nat → Option α} {r : α} (h : ∀ x k, g x k = f x k) (k : EvU c f r) : EvU c g r := by rw [show g = f from funext fun x => funext (h x)]; exact k
theorem EvU.ite_pos {ρ α : Type} {q : ρ → Prop} {g f : ρ → Nat → Option α} {r : α} {c : Prop} [Decidable c] (h : c) (k : EvU q g r) : EvU q (fun x n => if c then g x n else f x n) r := EvU.congr (fun x n => if_pos h) k
theorem EvU.ite_neg {ρ α : Type} {q : ρ → Prop} {g f : ρ → Nat → Option α} {r : α} {c : Prop} [Decidable c] (h : ¬ c) (k : EvU q f r) : EvU q (fun x n => if c then g x n else f x n) r := EvU.congr (fun x n => if_neg h) k
theorem EvU.to {ρ α : Type} {q : ρ → Prop} {g : ρ → Nat → Option α} {r s : α} (h : EvU q g r) (e : r = s) : EvU q g s := by subst e; exact h
theorem EvU.use {ρ α : Type} {q : ρ → Prop} {g : ρ → Nat → Option α} {r : α} (h : EvU q g r) {F : Nat → ρ} (hF : ∃ K, ∀ k, K ≤ k → q (F k)) : Ev (fun k => g (F k) k) r := by
  obtain ⟨K, h⟩ := h; obtain ⟨L, hF⟩ := hF
  exact ⟨max K L, fun k hk => h _ (hF k (by omega)) k (by omega)⟩
end Go.Proofs.YtjhnpaenhdbhpabV
set_option linter.unusedVariables false
set_option linter.unusedSimpArgs false
set_option maxRecDepth 100000
namespace Go.Proofs.YtjhnpaenhdbhpabV
open Go Go.RowKit
noncomputable def erasurelaw30_CacheSelects  (k : Nat) (rows0 : (List TEntry)) (column1 : Int) (v2 : TValue) : Option Bool := (erasurelaw30_short k rows0).bind fun y_1 => (if (!y_1) = true then ((erasurelaw30_awake k ).bind fun y_4 => (some y_4)) else ((cache_Select k rows0 column1 v2).bind fun y_6 => ((erasureref30_Select k rows0 column1 v2).bind fun y_8 => ((erasureref26_SameBag k y_6 y_8).bind fun y_10 => (if y_10 = true then ((erasurelaw30_awake k ).bind fun y_13 => (some y_13)) else (some false))))))
noncomputable def erasurelaw30_CacheSelects.t : List Item := [.code (bodyOf Try.f3)]
noncomputable def erasurelaw30_CacheSelects.s (rows0 : (List TEntry)) (column1 : Int) (v2 : TValue) : St := ⟨frOf Try.f3.ntmps 0 [(0, .p (eL 2 cEntry dEntry rows0)), (1, .p (.int .i64 column1)), (2, .agg ((cValue v2).map .p))], []⟩
theorem erasurelaw30_CacheSelects.run   {k : Nat} {rows0 : (List TEntry)} {column1 : Int} {v2 : TValue} {r : Bool} (h : erasurelaw30_CacheSelects k rows0 column1 v2 = some r) : RunC Try.prog Try.f3 erasurelaw30_CacheSelects.t (erasurelaw30_CacheSelects.s rows0 column1 v2) (.p (.bool r)) [] := by
  unfold erasurelaw30_CacheSelects at h
  obtain ⟨y_1, e_2, h⟩ := bind_or h
  rcases ite_or h with ⟨g_3, h⟩ | ⟨g_3, h⟩
  · obtain ⟨y_4, e_5, h⟩ := bind_or h
    obtain rfl := Option.some.inj h
    exact RunC.out [.n 4, .r [(1, .call (.p (.bool y_1)) []), (2, .dec true)], .n 2, .r [(0, .call (.p (.bool y_4)) [])]] (by kernel_rfl) (Obs.of (by kernel_rfl) (And.intro (erasurelaw30_short.spec e_2) (And.intro g_3 (erasurelaw30_awake.spec e_5))))
  · obtain ⟨y_6, e_7, h⟩ := bind_or h
    obtain ⟨y_8, e_9, h⟩ := bind_or h
    obtain ⟨y_10, e_11, h⟩ := bind_or h
    rcases ite_or h with ⟨g_12, h⟩ | ⟨g_12, h⟩
    · obtain ⟨y_13, e_14, h⟩ := bind_or h
      obtain rfl := Option.some.inj h
      exact RunC.out [.n 4, .r [(1, .call (.p (.bool y_1)) []), (2, .dec false)], .n 3, .r [(3, .call (.sref 0 36 2 (y_6).length) [(oL true 36 2 cEntry dEntry y_6)]), (7, .call (.sref 0 36 2 (y_8).length) [(oL true 36 2 cEntry dEntry y_8)]), (8, .call (.p (.bool y_10)) []), (9, .dec true), (10, .call (.p (.bool y_13)) [])]] (by kernel_rfl) (Obs.of (by kernel_rfl) (And.intro (erasurelaw30_short.spec e_2) (And.intro (nt g_3) (And.intro (cache_Select.spec e_7) (And.intro (erasureref30_Select.spec e_9) (And.intro (erasureref26_SameBag.spec e_11) (And.intro g_12 (erasurelaw30_awake.spec e_14))))))))
    · obtain rfl := Option.some.inj h
      exact RunC.out [.n 4, .r [(1, .call (.p (.bool y_1)) []), (2, .dec false)], .n 3, .r [(3, .call (.sref 0 36 2 (y_6).length) [(oL true 36 2 cEntry dEntry y_6)]), (7, .call (.sref 0 36 2 (y_8).length) [(oL true 36 2 cEntry dEntry y_8)]), (8, .call (.p (.bool y_10)) []), (9, .dec false)]] (by kernel_rfl) (Obs.of (by kernel_rfl) (And.intro (erasurelaw30_short.spec e_2) (And.intro (nt g_3) (And.intro (cache_Select.spec e_7) (And.intro (erasureref30_Select.spec e_9) (And.intro (erasureref26_SameBag.spec e_11) (nt g_12)))))))
theorem erasurelaw30_CacheSelects.mono   : ∀ (k k' : Nat) (rows0 : (List TEntry)) (column1 : Int) (v2 : TValue) (r : Bool), k ≤ k' → erasurelaw30_CacheSelects k rows0 column1 v2 = some r → erasurelaw30_CacheSelects k' rows0 column1 v2 = some r := by
  intro k k' rows0 column1 v2 r hk h
  unfold erasurelaw30_CacheSelects at h ⊢
  obtain ⟨y_1, e_2, h⟩ := bind_or h
  refine bnd (erasurelaw30_short.mono _ _ _ _ hk e_2) ?_
  rcases ite_or h with ⟨g_3, h⟩ | ⟨g_3, h⟩
  · refine itp g_3 ?_
    obtain ⟨y_4, e_5, h⟩ := bind_or h
    refine bnd (erasurelaw30_awake.mono _ _  _ hk e_5) ?_
    exact h
  · refine itn g_3 ?_
    obtain ⟨y_6, e_7, h⟩ := bind_or h
    refine bnd (cache_Select.mono _ _ _ _ _ _ hk e_7) ?_
    obtain ⟨y_8, e_9, h⟩ := bind_or h
    refine bnd (erasureref30_Select.mono _ _ _ _ _ _ hk e_9) ?_
    obtain ⟨y_10, e_11, h⟩ := bind_or h
    refine bnd (erasureref26_SameBag.mono _ _ _ _ _ hk e_11) ?_
    rcases ite_or h with ⟨g_12, h⟩ | ⟨g_12, h⟩
    · refine itp g_12 ?_
      obtain ⟨y_13, e_14, h⟩ := bind_or h
      refine bnd (erasurelaw30_awake.mono _ _  _ hk e_14) ?_
      exact h
    · refine itn g_12 ?_
      exact h
theorem erasurelaw30_CacheSelects.spec {k : Nat} {rows0 : (List TEntry)} {column1 : Int} {v2 : TValue} {r : Bool} (h : erasurelaw30_CacheSelects k rows0 column1 v2 = some r) : Spec Try.prog 3 [.p (eL 2 cEntry dEntry rows0), .p (.int .i64 column1), .agg ((cValue v2).map .p)] (.p (.bool r)) [] :=
  spec_of mix Try.func3 (body := bodyOf Try.f3) (by kernel_rfl) (by kernel_rfl) (erasurelaw30_CacheSelects.run h)
end Go.Proofs.YtjhnpaenhdbhpabV
set_option linter.unusedVariables false
set_option linter.unusedSimpArgs false
namespace Go.Proofs.YtjhnpaenhdbhpabV
open Go Go.RowKit
theorem short_ev (l : List TEntry) (hl : l.length ≤ 9223372036854775807) : Ev (fun k => erasurelaw30_short k l) (l.all (fun e => decide (e.f0.length ≤ 20)) && decide (l.length ≤ 40)) := by
  unfold erasurelaw30_short
  refine (loop_down (P := fun i => Ev (fun k => erasurelaw30_short.p1 k l (i : Int)) ((l.drop i).all (fun e => decide (e.f0.length ≤ 20)) && decide (l.length ≤ 40))) l.length ?_ ?_ 0 (by omega))
  · refine Ev.succ ?_
    simp only [erasurelaw30_short.p1, decide_eq_true_eq]
    rw [List.drop_length]
    refine Ev.ite_neg (by omega) (Ev.done ?_)
    simp; omega
  · intro i hi ih
    refine Ev.succ ?_
    simp only [erasurelaw30_short.p1, decide_eq_true_eq]
    refine Ev.ite_pos (by omega) (Ev.ite_pos (by omega) ?_)
    rw [dE hi, wrn hi hl, List.all_cons]
    by_cases h : (l.getD (i : Int).toNat dEntry).f0.length ≤ 20
    · rw [decide_eq_true h]; exact Ev.ite_neg (by omega) (by simpa using ih)
    · rw [decide_eq_false h]; exact Ev.ite_pos (by omega) (Ev.done (by simp))
end Go.Proofs.YtjhnpaenhdbhpabV
set_option linter.unusedVariables false
set_option linter.unusedSimpArgs false
namespace Go.Proofs.YtjhnpaenhdbhpabV
open Go Go.RowKit
def refF (rows : List TEntry) (c d : Int) (x : TCached) : Option TCached := if selS rows c (clV x.f0) = [] then none else some ⟨x.f0, selS rows c (clV x.f0), d⟩
def refS (c : TCache) (s : List TCached) (rows : List TEntry) (d : Int) : List TCached := if cacheV s && (bagV rows && (okD c.f3 && okD d)) then s.filterMap (refF rows c.f2 d) else []
theorem len_pos_iff {α : Type} (l : List α) : ((l.length : Int) > 0) ↔ l ≠ [] := by cases l <;> simp <;> omega
theorem Refill_ev (c : TCache) (s : List TCached) (rows : List TEntry) (d : Int) (hs : FinC s) (hr : Fin rows) : Ev (fun k => cache_Refill k c s rows d) (refS c s rows d) := by
  unfold cache_Refill refS
  refine Ev.bind (usable_ev c s rows d hs hr) ?_
  cases hu : cacheV s && (bagV rows && (okD c.f3 && okD d)) with
  | false => exact Ev.ite_pos rfl (Ev.now _)
  | true =>
    refine Ev.ite_neg (by simp) ?_
    simp only [Bool.and_eq_true] at hu
    have hl := cacheV_len hu.1
    have hb := hu.2.1
    have key : ∀ i, i ≤ s.length → ∀ acc : List TCached, acc.length ≤ i → Ev (fun k => cache_Refill.p1 k s rows d (i : Int) c acc) (acc ++ (s.drop i).filterMap (refF rows c.f2 d)) := by
      refine loop_down (P := fun i => ∀ acc : List TCached, acc.length ≤ i → Ev (fun k => cache_Refill.p1 k s rows d (i : Int) c acc) (acc ++ (s.drop i).filterMap (refF rows c.f2 d))) s.length ?_ ?_
      · intro acc _
        refine Ev.succ ?_
        simp only [cache_Refill.p1, decide_eq_true_eq]
        exact Ev.ite_neg (by omega) (Ev.done (by simp))
      · intro i hi ih acc ha
        refine Ev.succ ?_
        simp only [cache_Refill.p1, decide_eq_true_eq, len_pos_iff]
        refine Ev.ite_pos (by omega) (Ev.ite_pos (by omega) (Ev.bind (sel_ev rows c.f2 _ (by have := bagV_len hb; omega) (fun e he => by have := okE_len (bagV_mem hb e he); omega)) ?_))
        rw [wrn hi (by omega), dC hi, List.filterMap_cons]
        by_cases h : selS rows c.f2 (clV (s.getD (i : Int).toNat dCached).f0) = []
        · refine Ev.ite_neg (fun q => q h) ((ih acc (by omega)).to ?_)
          simp only [refF, if_pos h]
        · refine Ev.ite_pos h (Ev.ite_pos (by simp [maxLen]; omega) ((ih _ (by simp; omega)).to ?_))
          simp only [refF, if_neg h]
          simp
    simpa using key 0 (by omega) [] (by simp)
theorem C_ext {x y : TCached} (h0 : x.f0 = y.f0) (h1 : x.f1 = y.f1) (h2 : x.f2 = y.f2) : x = y := by cases x; cases y; simp_all
instance : DecidableEq TCached := fun x y => decidable_of_iff (x.f0 = y.f0 ∧ x.f1 = y.f1 ∧ x.f2 = y.f2) ⟨fun h => C_ext h.1 h.2.1 h.2.2, fun h => by subst h; exact ⟨rfl, rfl, rfl⟩⟩
end Go.Proofs.YtjhnpaenhdbhpabV
set_option linter.unusedVariables false
set_option linter.unusedSimpArgs false
namespace Go.Proofs.YtjhnpaenhdbhpabV
open Go Go.RowKit
def OrdV (l : List TValue) : Prop := l.Pairwise fun x y => cmpV x y < 0
def insV (v : TValue) : List TValue → List TValue
  | [] => [v]
  | x :: l => if cmpV x v < 0 then x :: insV v l else v :: x :: l
def insU (out : List TValue) (v : TValue) : List TValue := if v ∈ out then out else insV v out
def appU (out : List TValue) (v : TValue) : List TValue := if v ∈ out then out else out ++ [v]
def valsE (l : List TEntry) (c : Int) : List TValue := l.map fun e => atV e.f0 c
def touS (m p : List TEntry) (c : Int) : List TValue := (valsE (m ++ p) c).foldl insU []
theorem atV_ok (row : List TValue) (c : Int) : okV (atV row c) = true := by
  unfold atV
  split
  · exact okV_z
  · split
    · exact okV_z
    · exact okV_cl _
theorem insV_perm (v : TValue) : ∀ l : List TValue, (insV v l).Perm (v :: l)
  | [] => List.Perm.refl _
  | x :: l => by
    unfold insV
    split
    · exact ((insV_perm v l).cons x).trans (List.Perm.swap v x l)
    · exact List.Perm.refl _
theorem insV_mem {v x : TValue} {l : List TValue} : x ∈ insV v l ↔ x = v ∨ x ∈ l := by
  rw [(insV_perm v l).mem_iff, List.mem_cons]
theorem insV_ord (v : TValue) (hv : okV v = true) : ∀ l : List TValue, OrdV l → (∀ x ∈ l, okV x = true) → v ∉ l → OrdV (insV v l)
  | [], _, _, _ => List.pairwise_singleton _ _
  | x :: l, ho, hk, hn => by
    unfold insV
    have h1 := List.pairwise_cons.1 ho
    have hx := hk x (List.mem_cons_self ..)
    by_cases h : cmpV x v < 0
    · rw [if_pos h]
      refine List.pairwise_cons.2 ⟨fun y hy => ?_, insV_ord v hv l h1.2 (fun y hy => hk y (List.mem_cons_of_mem _ hy)) (fun e => hn (List.mem_cons_of_mem _ e))⟩
      rcases insV_mem.1 hy with rfl | hy
      · exact h
      · exact h1.1 y hy
    · rw [if_neg h]
      have hz : cmpV x v ≠ 0 := fun e => hn (by rw [(cmpV_zero hx hv).1 e]; exact List.mem_cons_self ..)
      have hs := cmpV_swap x v
      have hvx : cmpV v x < 0 := by omega
      refine List.pairwise_cons.2 ⟨fun y hy => ?_, ho⟩
      rcases List.mem_cons.1 hy with rfl | hy
      · exact hvx
      · exact cmpV_trans hvx (h1.1 y hy)
theorem fold_ok : ∀ (L out : List TValue), (∀ x ∈ L, okV x = true) → (∀ x ∈ out, okV x = true) → OrdV out → OrdV (L.foldl insU out) ∧ ∀ x ∈ L.foldl insU out, okV x = true
  | [], out, _, h2, h3 => ⟨h3, h2⟩
  | v :: L, out, h1, h2, h3 => by
    rw [List.foldl_cons]
    have hv := h1 v (List.mem_cons_self ..)
    refine fold_ok L _ (fun x hx => h1 x (List.mem_cons_of_mem _ hx)) (fun x hx => ?_) ?_
    · unfold insU at hx
      split at hx
      · exact h2 x hx
      · rcases insV_mem.1 hx with rfl | hx
        · exact hv
        · exact h2 x hx
    · unfold insU
      split
      · exact h3
      · rename_i hn; exact insV_ord v hv out h3 h2 hn
theorem fold_perm : ∀ (L a b : List TValue), a.Perm b → (L.foldl insU a).Perm (L.foldl appU b)
  | [], a, b, h => h
  | v :: L, a, b, h => by
    rw [List.foldl_cons, List.foldl_cons]
    refine fold_perm L _ _ ?_
    unfold insU appU
    by_cases hv : v ∈ a
    · rw [if_pos hv, if_pos (h.mem_iff.1 hv)]; exact h
    · rw [if_neg hv, if_neg (fun e => hv (h.mem_iff.2 e))]
      exact (insV_perm v a).trans ((h.cons v).trans (List.perm_append_comm (l₁ := [v])))
theorem fold_len : ∀ (L a : List TValue), (L.foldl appU a).length ≤ a.length + L.length
  | [], a => by simp
  | v :: L, a => by
    rw [List.foldl_cons]
    have := fold_len L (appU a v)
    have h : (appU a v).length ≤ a.length + 1 := by unfold appU; split <;> simp
    simp only [List.length_cons]
    omega
theorem cmpV_ok {xs : List TValue} (h : ∀ x ∈ xs, okV x = true) : CmpOK cmpV xs where
  irrefl x _ := by rw [cmpV_self]; omega
  trans x _ y _ z _ h1 h2 := cmpV_trans h1 h2
  ntrans x hx y hy z hz h1 h2 := by
    intro h3
    have s1 := cmpV_swap x y
    have s2 := cmpV_swap y z
    by_cases e1 : cmpV x y = 0
    · rw [(cmpV_zero (h x hx) (h y hy)).1 e1] at h3; exact h2 h3
    · by_cases e2 : cmpV y z = 0
      · rw [← (cmpV_zero (h y hy) (h z hz)).1 e2] at h3; exact h1 h3
      · have := cmpV_trans (show cmpV z y < 0 by omega) (show cmpV y x < 0 by omega)
        have s3 := cmpV_swap z x
        omega
  anti x hx y hy h1 h2 := by
    have s := cmpV_swap x y
    exact (cmpV_zero (h x hx) (h y hy)).1 (by omega)
theorem sort_vals {xs ys : List TValue} (h : ∀ x ∈ xs, okV x = true) (hp : ys.Perm xs) (ho : OrdV ys) (hl : xs.length ≤ 1099511627776) : sortC (fun k x y => value_Compare k x y) xs = some ys := by
  refine sortC_eq (fun x y k k' r hk h => value_Compare.mono k k' x y r hk h) ⟨⟨cmpV, fun x _ y _ => ⟨0, value_Compare_eq 0 x y⟩, cmpV_ok h, hp, ?_, by omega⟩⟩
  refine ho.imp fun {a b} hab => ?_
  have := cmpV_swap a b
  omega
theorem valsE_ok (l : List TEntry) (c : Int) : ∀ x ∈ valsE l c, okV x = true := by
  intro x hx
  obtain ⟨e, _, rfl⟩ := List.mem_map.1 hx
  exact atV_ok _ _
theorem getM_pairs (v : TValue) : ∀ out : List TValue, getM (out.map fun x => (x, true)) v false = decide (v ∈ out)
  | [] => rfl
  | x :: out => by
    simp only [List.map_cons, getM, getM_pairs v out]
    by_cases h : x = v
    · simp [h]
    · have : ¬ v = x := fun e => h e.symm
      simp [h, this]
theorem putM_pairs (v : TValue) : ∀ out : List TValue, v ∉ out → putM (out.map fun x => (x, true)) v true = (out ++ [v]).map fun x => (x, true)
  | [], _ => rfl
  | x :: out, h => by
    have h1 : ¬ x = v := fun e => h (by rw [e]; exact List.mem_cons_self ..)
    simp only [List.map_cons, putM, List.cons_append]
    rw [if_neg h1, putM_pairs v out (fun e => h (List.mem_cons_of_mem _ e))]
theorem touched_p2 (c : Int) (l : List TEntry) (n j : Int) (V : List (List TEntry)) (r : List TValue) (hl : l.length ≤ 1099511627776) : ∀ i, i ≤ l.length → ∀ out : List TValue, out.length ≤ 1099511627776 + i →
    EvU (fun rec1 => rec1 c n (IntKind.i64.wrap (j + 1)) (((valsE (l.drop i) c).foldl appU out).map fun x => (x, true)) ((valsE (l.drop i) c).foldl appU out) V = some r)
      (fun rec1 k => cache_Touched.p2 rec1 k c l (i : Int) n j (out.map fun x => (x, true)) out V) r := by
  refine loop_down (P := fun i => ∀ out : List TValue, out.length ≤ 1099511627776 + i → EvU (fun rec1 => rec1 c n (IntKind.i64.wrap (j + 1)) (((valsE (l.drop i) c).foldl appU out).map fun x => (x, true)) ((valsE (l.drop i) c).foldl appU out) V = some r)
      (fun rec1 k => cache_Touched.p2 rec1 k c l (i : Int) n j (out.map fun x => (x, true)) out V) r) l.length ?_ ?_
  · intro out _
    refine EvU.succ ?_
    simp only [cache_Touched.p2, decide_eq_true_eq, List.drop_length]
    exact EvU.ite_neg (by omega) (EvU.rec fun x hx => hx)
  · intro i hi ih out ho
    refine EvU.succ ?_
    simp only [cache_Touched.p2, decide_eq_true_eq, cache_at_eq, Option.bind_some, getM_pairs]
    refine EvU.ite_pos (by omega) (EvU.ite_pos (by omega) ?_)
    rw [wrn hi (by omega), dE hi]
    simp only [valsE, List.map_cons, List.foldl_cons]
    by_cases h : atV (l.getD (i : Int).toNat dEntry).f0 c ∈ out
    · rw [decide_eq_true h]
      simp only [appU, if_pos h]
      exact EvU.ite_neg (by simp) (ih out (by omega))
    · rw [decide_eq_false h]
      simp only [putM_pairs _ out h, appU, if_neg h]
      exact EvU.ite_pos rfl (EvU.ite_pos (by simp [maxLen]; omega) (ih _ (by simp; omega)))
theorem touched_p1 (c : Int) (m p : List TEntry) (hm : m.length ≤ 1000000) (hp : p.length ≤ 1000000) : Ev (fun k => cache_Touched k m p c) (touS m p c) := by
  unfold cache_Touched
  have hD : (valsE p c).foldl appU ((valsE m c).foldl appU []) = (valsE (m ++ p) c).foldl appU [] := by simp [valsE]
  have hlen := fold_len (valsE (m ++ p) c) []
  simp only [valsE, List.length_map, List.length_append, List.length_nil] at hlen
  have hlm := fold_len (valsE m c) []
  simp only [valsE, List.length_map, List.length_nil] at hlm
  have last : Ev (fun k => cache_Touched.p1 k c 2 2 (((valsE (m ++ p) c).foldl appU []).map fun x => (x, true)) ((valsE (m ++ p) c).foldl appU []) [m, p]) (touS m p c) := by
    refine Ev.succ ?_
    simp only [cache_Touched.p1, decide_eq_true_eq]
    refine Ev.ite_neg (by omega) ?_
    have hpm := fold_perm (valsE (m ++ p) c) [] [] (List.Perm.refl _)
    have hok := fold_ok (valsE (m ++ p) c) [] (valsE_ok _ c) (fun x hx => by cases hx) List.Pairwise.nil
    rw [sort_vals (ys := touS m p c) (fun x hx => hok.2 x (hpm.mem_iff.2 hx)) hpm hok.1 (by simp only [valsE]; omega)]
    exact Ev.now _
  have second : Ev (fun k => cache_Touched.p1 k c 2 1 (((valsE m c).foldl appU []).map fun x => (x, true)) ((valsE m c).foldl appU []) [m, p]) (touS m p c) := by
    refine Ev.succ ?_
    simp only [cache_Touched.p1, decide_eq_true_eq]
    refine Ev.ite_pos (by omega) (Ev.ite_pos (by simp) ?_)
    have h := touched_p2 c p 2 1 [m, p] (touS m p c) (by omega) 0 (by omega) ((valsE m c).foldl appU []) (by simp only [valsE]; omega)
    refine EvU.use (F := fun k => cache_Touched.p1 k) h ?_
    obtain ⟨K, hK⟩ := last
    refine ⟨K, fun k hk => ?_⟩
    rw [List.drop_zero, hD, show IntKind.i64.wrap (1 + 1) = 2 from rfl]
    exact hK k hk
  refine Ev.succ ?_
  simp only [cache_Touched.p1, decide_eq_true_eq]
  refine Ev.ite_pos (by simp) (Ev.ite_pos (by simp) ?_)
  have h := touched_p2 c m 2 0 [m, p] (touS m p c) (by omega) 0 (by omega) [] (by simp)
  refine EvU.use (F := fun k => cache_Touched.p1 k) h ?_
  obtain ⟨K, hK⟩ := second
  refine ⟨K, fun k hk => ?_⟩
  rw [List.drop_zero, show IntKind.i64.wrap (0 + 1) = 1 from rfl]
  exact hK k hk
end Go.Proofs.YtjhnpaenhdbhpabV
set_option linter.unusedVariables false
set_option linter.unusedSimpArgs false
set_option maxRecDepth 100000
namespace Go.Proofs.YtjhnpaenhdbhpabV
open Go Go.RowKit
noncomputable def erasurelaw30_CacheBounds.p3  : Nat → Int → Int → (List TCached) → (List TCached) → Option Bool
  | 0, _, _, _, _ => none
  | k + 1, old13, i18, s6, t15 => if (decide (i18 < ((t15).length : Int))) = true then (if 0 ≤ i18 ∧ i18 < ((t15).length : Int) then (if 0 ≤ old13 ∧ old13 < ((s6).length : Int) then (if (((t15.getD i18.toNat dCached).f0.f0 == (s6.getD old13.toNat dCached).f0.f0) && (((t15.getD i18.toNat dCached).f0.f1 == (s6.getD old13.toNat dCached).f0.f1) && ((((t15.getD i18.toNat dCached).f0.f2).data.toList == ((s6.getD old13.toNat dCached).f0.f2).data.toList) && true))) = true then (some false) else (erasurelaw30_CacheBounds.p3 k old13 (IntKind.i64.wrap (i18 + 1)) s6 t15)) else none) else none) else ((erasurelaw30_awake k ).bind fun y_29 => (some y_29))
noncomputable def erasurelaw30_CacheBounds.p2  : Nat → Int → Int → Int → TCache → (List TCached) → Option Bool
  | 0, _, _, _, _, _ => none
  | k + 1, n0, old13, i14, c5b, s6 => if (decide (i14 < ((s6).length : Int))) = true then (if 0 ≤ i14 ∧ i14 < ((s6).length : Int) then (if 0 ≤ old13 ∧ old13 < ((s6).length : Int) then (if (decide ((s6.getD i14.toNat dCached).f2 < (s6.getD old13.toNat dCached).f2)) = true then (erasurelaw30_CacheBounds.p2 k n0 i14 (IntKind.i64.wrap (i14 + 1)) c5b s6) else (erasurelaw30_CacheBounds.p2 k n0 old13 (IntKind.i64.wrap (i14 + 1)) c5b s6)) else none) else none) else ((erasureref01_Int k (IntKind.i64.wrap (100 + (Go.bits .and .i64 n0 7)))).bind fun y_19 => ((cache_Lookup k c5b s6 ([] : List TEntry) y_19 41).bind fun y_21 => (if (y_21.2.2 != 0) = true then (some false) else (if (((y_21.1).length : Int) != 16) = true then (some false) else (erasurelaw30_CacheBounds.p3 k old13 0 s6 y_21.1)))))
noncomputable def erasurelaw30_CacheBounds.p1  : Nat → Int → (List Int) → Int → Int → TCache → (List TCached) → Option Bool
  | 0, _, _, _, _, _, _ => none
  | k + 1, n0, order1, last7, i8, c5b, s6 => if (decide (i8 < 16)) = true then (if (decide (i8 < ((order1).length : Int))) = true then (if 0 ≤ i8 ∧ i8 < ((order1).length : Int) then ((erasureref01_Int k i8).bind fun y_4 => ((cache_Lookup k c5b s6 ([] : List TEntry) y_4 (if last7 > (IntKind.i64.wrap ((IntKind.u64.wrap (order1.getD i8.toNat (0 : Int))).tmod 40)) then last7 else (IntKind.i64.wrap ((IntKind.u64.wrap (order1.getD i8.toNat (0 : Int))).tmod 40)))).bind fun y_6 => (if (y_6.2.2 != 0) = true then (some false) else (erasurelaw30_CacheBounds.p1 k n0 order1 (if last7 > (IntKind.i64.wrap ((IntKind.u64.wrap (order1.getD i8.toNat (0 : Int))).tmod 40)) then last7 else (IntKind.i64.wrap ((IntKind.u64.wrap (order1.getD i8.toNat (0 : Int))).tmod 40))) (IntKind.i64.wrap (i8 + 1)) c5b y_6.1)))) else none) else ((erasureref01_Int k i8).bind fun y_9 => ((cache_Lookup k c5b s6 ([] : List TEntry) y_9 (if last7 > i8 then last7 else i8)).bind fun y_11 => (if (y_11.2.2 != 0) = true then (some false) else (erasurelaw30_CacheBounds.p1 k n0 order1 (if last7 > i8 then last7 else i8) (IntKind.i64.wrap (i8 + 1)) c5b y_11.1))))) else (if (((s6).length : Int) != 16) = true then (some false) else (erasurelaw30_CacheBounds.p2 k n0 0 1 c5b s6))
noncomputable def erasurelaw30_CacheBounds  (k : Nat) (n0 : Int) (order1 : (List Int)) : Option Bool := erasurelaw30_CacheBounds.p1 k n0 order1 0 0 (TCache.mk (⟨#[]⟩ : ByteArray) (⟨#[]⟩ : ByteArray) 0 1000) ([] : List TCached)
noncomputable def erasurelaw30_CacheBounds.t : List Item := [.code (bodyOf Try.f5)]
noncomputable def erasurelaw30_CacheBounds.s (n0 : Int) (order1 : (List Int)) : St := ⟨frOf Try.f5.ntmps 0 [(0, .p (.int .i64 n0)), (1, .p (eL 1 (cI .i64) (0 : Int) order1))], []⟩
noncomputable def erasurelaw30_CacheBounds.p1.t : List Item := nav 13 [] erasurelaw30_CacheBounds.t
noncomputable def erasurelaw30_CacheBounds.p1.s (n0 : Int) (order1 : (List Int)) (last7 : Int) (i8 : Int) (c5b : TCache) (s6 : (List TCached)) : St := ⟨frOf Try.f5.ntmps 0 [(0, .p (.int .i64 n0)), (1, .p (eL 1 (cI .i64) (0 : Int) order1)), (5, .ptr 0 0 0), (6, .sref 1 46 5 (s6).length), (7, .p (.int .i64 last7)), (8, .p (.int .i64 i8))], [.box ((cCache c5b).map .p), (oL true 46 5 cCached dCached s6)]⟩
noncomputable def erasurelaw30_CacheBounds.p2.t : List Item := nav 17 [false, false] erasurelaw30_CacheBounds.p1.t
noncomputable def erasurelaw30_CacheBounds.p2.s (n0 : Int) (old13 : Int) (i14 : Int) (c5b : TCache) (s6 : (List TCached)) : St := ⟨frOf Try.f5.ntmps 0 [(0, .p (.int .i64 n0)), (5, .ptr 0 0 0), (6, .sref 1 46 5 (s6).length), (13, .p (.int .i64 old13)), (14, .p (.int .i64 i14))], [.box ((cCache c5b).map .p), (oL true 46 5 cCached dCached s6)]⟩
noncomputable def erasurelaw30_CacheBounds.p3.t : List Item := nav 17 [false, false] erasurelaw30_CacheBounds.p2.t
noncomputable def erasurelaw30_CacheBounds.p3.s (old13 : Int) (i18 : Int) (s6 : (List TCached)) (t15 : (List TCached)) : St := ⟨frOf Try.f5.ntmps 0 [(6, .sref 0 46 5 (s6).length), (13, .p (.int .i64 old13)), (15, .sref 1 46 5 (t15).length), (18, .p (.int .i64 i18))], [(oL false 46 5 cCached dCached s6), (oL true 46 5 cCached dCached t15)]⟩
theorem erasurelaw30_CacheBounds.p3.run   : ∀ (k : Nat) (old13 : Int) (i18 : Int) (s6 : (List TCached)) (t15 : (List TCached)) (r : Bool), erasurelaw30_CacheBounds.p3 k old13 i18 s6 t15 = some r → RunC Try.prog Try.f5 erasurelaw30_CacheBounds.p3.t (erasurelaw30_CacheBounds.p3.s old13 i18 s6 t15) (.p (.bool r)) [] := by
  intro k
  induction k with
  | zero => intro old13 i18 s6 t15 r h; simp [erasurelaw30_CacheBounds.p3] at h
  | succ k ih =>
    intro old13 i18 s6 t15 r h
    rw [erasurelaw30_CacheBounds.p3] at h
    rcases ite_or h with ⟨g_25, h⟩ | ⟨g_25, h⟩
    · obtain ⟨g_26, h⟩ := ite_some h
      obtain ⟨g_27, h⟩ := ite_some h
      rcases ite_or h with ⟨g_28, h⟩ | ⟨g_28, h⟩
      · obtain rfl := Option.some.inj h
        exact RunC.out [.n 2, .r [(3, .dec true)], .n 5, .r [(10, .dec true)], .n 3] (by kernel_rfl) (Obs.of (by kernel_rfl) (And.intro g_25 (And.intro g_26 (And.intro g_27 g_28))))
      · exact RunC.go [.n 2, .r [(3, .dec true)], .n 5, .r [(10, .dec false)], .n 5, .k [6, 13, 15, 18]] (by kernel_rfl) (Obs.of (by kernel_rfl) (And.intro g_25 (And.intro g_26 (And.intro g_27 (nt g_28))))) (ih _ _ _ _ r h)
    · obtain ⟨y_29, e_30, h⟩ := bind_or h
      obtain rfl := Option.some.inj h
      exact RunC.out [.n 2, .r [(3, .dec false)], .n 3, .r [(0, .call (.p (.bool y_29)) [])]] (by kernel_rfl) (Obs.of (by kernel_rfl) (And.intro (nt g_25) (erasurelaw30_awake.spec e_30)))
theorem erasurelaw30_CacheBounds.p2.run   : ∀ (k : Nat) (n0 : Int) (old13 : Int) (i14 : Int) (c5b : TCache) (s6 : (List TCached)) (r : Bool), erasurelaw30_CacheBounds.p2 k n0 old13 i14 c5b s6 = some r → RunC Try.prog Try.f5 erasurelaw30_CacheBounds.p2.t (erasurelaw30_CacheBounds.p2.s n0 old13 i14 c5b s6) (.p (.bool r)) [] := by
  intro k
  induction k with
  | zero => intro n0 old13 i14 c5b s6 r h; simp [erasurelaw30_CacheBounds.p2] at h
  | succ k ih =>
    intro n0 old13 i14 c5b s6 r h
    rw [erasurelaw30_CacheBounds.p2] at h
    rcases ite_or h with ⟨g_15, h⟩ | ⟨g_15, h⟩
    · obtain ⟨g_16, h⟩ := ite_some h
      obtain ⟨g_17, h⟩ := ite_some h
      rcases ite_or h with ⟨g_18, h⟩ | ⟨g_18, h⟩
      · exact RunC.go [.n 2, .r [(3, .dec true)], .n 5, .r [(10, .dec true)], .n 5, .k [0, 5, 6, 13, 14]] (by kernel_rfl) (Obs.of (by kernel_rfl) (And.intro g_15 (And.intro g_16 (And.intro g_17 g_18)))) (ih _ _ _ _ _ r h)
      · exact RunC.go [.n 2, .r [(3, .dec true)], .n 5, .r [(10, .dec false)], .n 5, .k [0, 5, 6, 13, 14]] (by kernel_rfl) (Obs.of (by kernel_rfl) (And.intro g_15 (And.intro g_16 (And.intro g_17 (nt g_18))))) (ih _ _ _ _ _ r h)
    · obtain ⟨y_19, e_20, h⟩ := bind_or h
      obtain ⟨y_21, e_22, h⟩ := bind_or h
      rcases ite_or h with ⟨g_23, h⟩ | ⟨g_23, h⟩
      · obtain rfl := Option.some.inj h
        exact RunC.out [.n 2, .r [(3, .dec false)], .n 3, .r [(5, .call (.agg ((cValue y_19).map .p)) []), (6, .callL [.agg ((cCache c5b).map .p), .p (eL 5 cCached dCached s6), .p (eL 2 cEntry dEntry ([] : List TEntry)), .agg ((cValue y_19).map .p), .p (.int .i64 41)] (.tup [.sref 0 46 5 (y_21.1).length, .sref 1 36 2 (y_21.2.1).length, .p (.int .i64 y_21.2.2)]) [(oL true 46 5 cCached dCached y_21.1), (oL true 36 2 cEntry dEntry y_21.2.1)])], .n 2, .r [(2, .dec true)], .n 3] (by kernel_rfl) (Obs.of (by kernel_rfl) (And.intro (nt g_15) (And.intro (erasureref01_Int.spec e_20) (And.intro (And.intro (fls_cons (fle_rfl (.agg ((cCache c5b).map .p))) (fls_cons (fle_rfl (.p (eL 5 cCached dCached s6))) (fls_cons (fle_nil 2 cEntry dEntry) (fls_cons (fle_rfl (.agg ((cValue y_19).map .p))) (fls_cons (fle_rfl (.p (.int .i64 41))) fls_nil))))) (cache_Lookup.spec e_22)) g_23))))
      · rcases ite_or h with ⟨g_24, h⟩ | ⟨g_24, h⟩
        · obtain rfl := Option.some.inj h
          exact RunC.out [.n 2, .r [(3, .dec false)], .n 3, .r [(5, .call (.agg ((cValue y_19).map .p)) []), (6, .callL [.agg ((cCache c5b).map .p), .p (eL 5 cCached dCached s6), .p (eL 2 cEntry dEntry ([] : List TEntry)), .agg ((cValue y_19).map .p), .p (.int .i64 41)] (.tup [.sref 0 46 5 (y_21.1).length, .sref 1 36 2 (y_21.2.1).length, .p (.int .i64 y_21.2.2)]) [(oL true 46 5 cCached dCached y_21.1), (oL true 36 2 cEntry dEntry y_21.2.1)])], .n 2, .r [(2, .dec false), (6, .dec true)], .n 3] (by kernel_rfl) (Obs.of (by kernel_rfl) (And.intro (nt g_15) (And.intro (erasureref01_Int.spec e_20) (And.intro (And.intro (fls_cons (fle_rfl (.agg ((cCache c5b).map .p))) (fls_cons (fle_rfl (.p (eL 5 cCached dCached s6))) (fls_cons (fle_nil 2 cEntry dEntry) (fls_cons (fle_rfl (.agg ((cValue y_19).map .p))) (fls_cons (fle_rfl (.p (.int .i64 41))) fls_nil))))) (cache_Lookup.spec e_22)) (And.intro (nt g_23) g_24)))))
        · exact RunC.go [.n 2, .r [(3, .dec false)], .n 3, .r [(5, .call (.agg ((cValue y_19).map .p)) []), (6, .callL [.agg ((cCache c5b).map .p), .p (eL 5 cCached dCached s6), .p (eL 2 cEntry dEntry ([] : List TEntry)), .agg ((cValue y_19).map .p), .p (.int .i64 41)] (.tup [.sref 0 46 5 (y_21.1).length, .sref 1 36 2 (y_21.2.1).length, .p (.int .i64 y_21.2.2)]) [(oL true 46 5 cCached dCached y_21.1), (oL true 36 2 cEntry dEntry y_21.2.1)])], .n 2, .r [(2, .dec false), (6, .dec false)], .n 7, .k [6, 13, 15, 18]] (by kernel_rfl) (Obs.of (by kernel_rfl) (And.intro (nt g_15) (And.intro (erasureref01_Int.spec e_20) (And.intro (And.intro (fls_cons (fle_rfl (.agg ((cCache c5b).map .p))) (fls_cons (fle_rfl (.p (eL 5 cCached dCached s6))) (fls_cons (fle_nil 2 cEntry dEntry) (fls_cons (fle_rfl (.agg ((cValue y_19).map .p))) (fls_cons (fle_rfl (.p (.int .i64 41))) fls_nil))))) (cache_Lookup.spec e_22)) (And.intro (nt g_23) (nt g_24)))))) (erasurelaw30_CacheBounds.p3.run k _ _ _ _ r h)
theorem erasurelaw30_CacheBounds.p1.run   : ∀ (k : Nat) (n0 : Int) (order1 : (List Int)) (last7 : Int) (i8 : Int) (c5b : TCache) (s6 : (List TCached)) (r : Bool), erasurelaw30_CacheBounds.p1 k n0 order1 last7 i8 c5b s6 = some r → RunC Try.prog Try.f5 erasurelaw30_CacheBounds.p1.t (erasurelaw30_CacheBounds.p1.s n0 order1 last7 i8 c5b s6) (.p (.bool r)) [] := by
  intro k
  induction k with
  | zero => intro n0 order1 last7 i8 c5b s6 r h; simp [erasurelaw30_CacheBounds.p1] at h
  | succ k ih =>
    intro n0 order1 last7 i8 c5b s6 r h
    rw [erasurelaw30_CacheBounds.p1] at h
    rcases ite_or h with ⟨g_1, h⟩ | ⟨g_1, h⟩
    · rcases ite_or h with ⟨g_2, h⟩ | ⟨g_2, h⟩
      · obtain ⟨g_3, h⟩ := ite_some h
        obtain ⟨y_4, e_5, h⟩ := bind_or h
        obtain ⟨y_6, e_7, h⟩ := bind_or h
        rcases ite_or h with ⟨g_8, h⟩ | ⟨g_8, h⟩
        · obtain rfl := Option.some.inj h
          exact RunC.out [.n 2, .r [(1, .dec true)], .n 8, .r [(3, .dec true)], .n 7, .r [(3, .call (.agg ((cValue y_4).map .p)) []), (5, .callL [.agg ((cCache c5b).map .p), .p (eL 5 cCached dCached s6), .p (eL 2 cEntry dEntry ([] : List TEntry)), .agg ((cValue y_4).map .p), .p (.int .i64 (if last7 > (IntKind.i64.wrap ((IntKind.u64.wrap (order1.getD i8.toNat (0 : Int))).tmod 40)) then last7 else (IntKind.i64.wrap ((IntKind.u64.wrap (order1.getD i8.toNat (0 : Int))).tmod 40))))] (.tup [.sref 0 46 5 (y_6.1).length, .sref 1 36 2 (y_6.2.1).length, .p (.int .i64 y_6.2.2)]) [(oL true 46 5 cCached dCached y_6.1), (oL true 36 2 cEntry dEntry y_6.2.1)])], .n 2, .r [(1, .dec true)], .n 3] (by kernel_rfl) (Obs.of (by kernel_rfl) (And.intro g_1 (And.intro g_2 (And.intro g_3 (And.intro (show (40 : Int) ≠ 0 from (by decide)) (And.intro (erasureref01_Int.spec e_5) (And.intro (And.intro (fls_cons (fle_rfl (.agg ((cCache c5b).map .p))) (fls_cons (fle_rfl (.p (eL 5 cCached dCached s6))) (fls_cons (fle_nil 2 cEntry dEntry) (fls_cons (fle_rfl (.agg ((cValue y_4).map .p))) (fls_cons (fle_rfl (.p (.int .i64 (if last7 > (IntKind.i64.wrap ((IntKind.u64.wrap (order1.getD i8.toNat (0 : Int))).tmod 40)) then last7 else (IntKind.i64.wrap ((IntKind.u64.wrap (order1.getD i8.toNat (0 : Int))).tmod 40)))))) fls_nil))))) (cache_Lookup.spec e_7)) g_8)))))))
        · exact RunC.go [.n 2, .r [(1, .dec true)], .n 8, .r [(3, .dec true)], .n 7, .r [(3, .call (.agg ((cValue y_4).map .p)) []), (5, .callL [.agg ((cCache c5b).map .p), .p (eL 5 cCached dCached s6), .p (eL 2 cEntry dEntry ([] : List TEntry)), .agg ((cValue y_4).map .p), .p (.int .i64 (if last7 > (IntKind.i64.wrap ((IntKind.u64.wrap (order1.getD i8.toNat (0 : Int))).tmod 40)) then last7 else (IntKind.i64.wrap ((IntKind.u64.wrap (order1.getD i8.toNat (0 : Int))).tmod 40))))] (.tup [.sref 0 46 5 (y_6.1).length, .sref 1 36 2 (y_6.2.1).length, .p (.int .i64 y_6.2.2)]) [(oL true 46 5 cCached dCached y_6.1), (oL true 36 2 cEntry dEntry y_6.2.1)])], .n 2, .r [(1, .dec false)], .n 6, .k [0, 1, 5, 6, 7, 8]] (by kernel_rfl) (Obs.of (by kernel_rfl) (And.intro g_1 (And.intro g_2 (And.intro g_3 (And.intro (show (40 : Int) ≠ 0 from (by decide)) (And.intro (erasureref01_Int.spec e_5) (And.intro (And.intro (fls_cons (fle_rfl (.agg ((cCache c5b).map .p))) (fls_cons (fle_rfl (.p (eL 5 cCached dCached s6))) (fls_cons (fle_nil 2 cEntry dEntry) (fls_cons (fle_rfl (.agg ((cValue y_4).map .p))) (fls_cons (fle_rfl (.p (.int .i64 (if last7 > (IntKind.i64.wrap ((IntKind.u64.wrap (order1.getD i8.toNat (0 : Int))).tmod 40)) then last7 else (IntKind.i64.wrap ((IntKind.u64.wrap (order1.getD i8.toNat (0 : Int))).tmod 40)))))) fls_nil))))) (cache_Lookup.spec e_7)) (nt g_8)))))))) (ih _ _ _ _ _ _ r h)
      · obtain ⟨y_9, e_10, h⟩ := bind_or h
        obtain ⟨y_11, e_12, h⟩ := bind_or h
        rcases ite_or h with ⟨g_13, h⟩ | ⟨g_13, h⟩
        · obtain rfl := Option.some.inj h
          exact RunC.out [.n 2, .r [(1, .dec true)], .n 8, .r [(3, .dec false)], .n 7, .r [(3, .call (.agg ((cValue y_9).map .p)) []), (5, .callL [.agg ((cCache c5b).map .p), .p (eL 5 cCached dCached s6), .p (eL 2 cEntry dEntry ([] : List TEntry)), .agg ((cValue y_9).map .p), .p (.int .i64 (if last7 > i8 then last7 else i8))] (.tup [.sref 0 46 5 (y_11.1).length, .sref 1 36 2 (y_11.2.1).length, .p (.int .i64 y_11.2.2)]) [(oL true 46 5 cCached dCached y_11.1), (oL true 36 2 cEntry dEntry y_11.2.1)])], .n 2, .r [(1, .dec true)], .n 3] (by kernel_rfl) (Obs.of (by kernel_rfl) (And.intro g_1 (And.intro (nt g_2) (And.intro (erasureref01_Int.spec e_10) (And.intro (And.intro (fls_cons (fle_rfl (.agg ((cCache c5b).map .p))) (fls_cons (fle_rfl (.p (eL 5 cCached dCached s6))) (fls_cons (fle_nil 2 cEntry dEntry) (fls_cons (fle_rfl (.agg ((cValue y_9).map .p))) (fls_cons (fle_rfl (.p (.int .i64 (if last7 > i8 then last7 else i8)))) fls_nil))))) (cache_Lookup.spec e_12)) g_13)))))
        · exact RunC.go [.n 2, .r [(1, .dec true)], .n 8, .r [(3, .dec false)], .n 7, .r [(3, .call (.agg ((cValue y_9).map .p)) []), (5, .callL [.agg ((cCache c5b).map .p), .p (eL 5 cCached dCached s6), .p (eL 2 cEntry dEntry ([] : List TEntry)), .agg ((cValue y_9).map .p), .p (.int .i64 (if last7 > i8 then last7 else i8))] (.tup [.sref 0 46 5 (y_11.1).length, .sref 1 36 2 (y_11.2.1).length, .p (.int .i64 y_11.2.2)]) [(oL true 46 5 cCached dCached y_11.1), (oL true 36 2 cEntry dEntry y_11.2.1)])], .n 2, .r [(1, .dec false)], .n 6, .k [0, 1, 5, 6, 7, 8]] (by kernel_rfl) (Obs.of (by kernel_rfl) (And.intro g_1 (And.intro (nt g_2) (And.intro (erasureref01_Int.spec e_10) (And.intro (And.intro (fls_cons (fle_rfl (.agg ((cCache c5b).map .p))) (fls_cons (fle_rfl (.p (eL 5 cCached dCached s6))) (fls_cons (fle_nil 2 cEntry dEntry) (fls_cons (fle_rfl (.agg ((cValue y_9).map .p))) (fls_cons (fle_rfl (.p (.int .i64 (if last7 > i8 then last7 else i8)))) fls_nil))))) (cache_Lookup.spec e_12)) (nt g_13)))))) (ih _ _ _ _ _ _ r h)
    · rcases ite_or h with ⟨g_14, h⟩ | ⟨g_14, h⟩
      · obtain rfl := Option.some.inj h
        exact RunC.out [.n 2, .r [(1, .dec false)], .n 4, .r [(2, .dec true)], .n 3] (by kernel_rfl) (Obs.of (by kernel_rfl) (And.intro (nt g_1) g_14))
      · exact RunC.go [.n 2, .r [(1, .dec false)], .n 4, .r [(2, .dec false)], .n 9, .k [0, 5, 6, 13, 14]] (by kernel_rfl) (Obs.of (by kernel_rfl) (And.intro (nt g_1) (nt g_14))) (erasurelaw30_CacheBounds.p2.run k _ _ _ _ _ r h)
theorem erasurelaw30_CacheBounds.run   {k : Nat} {n0 : Int} {order1 : (List Int)} {r : Bool} (h : erasurelaw30_CacheBounds k n0 order1 = some r) : RunC Try.prog Try.f5 erasurelaw30_CacheBounds.t (erasurelaw30_CacheBounds.s n0 order1) (.p (.bool r)) [] := by
  unfold erasurelaw30_CacheBounds at h
  exact RunC.go [.n 5, .r [(0, .obj (oL true 46 5 cCached dCached ([] : List TCached)))], .n 7, .k [0, 1, 5, 6, 7, 8]] (by kernel_rfl) (Obs.of (by kernel_rfl) (le_nil 46 5 cCached dCached)) (erasurelaw30_CacheBounds.p1.run k _ _ _ _ _ _ r h)
theorem erasurelaw30_CacheBounds.p3.mono   : ∀ (k k' : Nat) (old13 : Int) (i18 : Int) (s6 : (List TCached)) (t15 : (List TCached)) (r : Bool), k ≤ k' → erasurelaw30_CacheBounds.p3 k old13 i18 s6 t15 = some r → erasurelaw30_CacheBounds.p3 k' old13 i18 s6 t15 = some r := by
  intro k
  induction k with
  | zero => intro k' old13 i18 s6 t15 r hk h; simp [erasurelaw30_CacheBounds.p3] at h
  | succ k ih =>
    intro k' old13 i18 s6 t15 r hk h
    obtain ⟨k', rfl⟩ : ∃ m, k' = m + 1 := ⟨k' - 1, by omega⟩
    replace hk := Nat.le_of_succ_le_succ hk
    rw [erasurelaw30_CacheBounds.p3] at h ⊢
    rcases ite_or h with ⟨g_25, h⟩ | ⟨g_25, h⟩
    · refine itp g_25 ?_
      obtain ⟨g_26, h⟩ := ite_some h
      refine itp g_26 ?_
      obtain ⟨g_27, h⟩ := ite_some h
      refine itp g_27 ?_
      rcases ite_or h with ⟨g_28, h⟩ | ⟨g_28, h⟩
      · refine itp g_28 ?_
        exact h
      · refine itn g_28 ?_
        exact ih _ _ _ _ _ r hk h
    · refine itn g_25 ?_
      obtain ⟨y_29, e_30, h⟩ := bind_or h
      refine bnd (erasurelaw30_awake.mono _ _  _ hk e_30) ?_
      exact h
theorem erasurelaw30_CacheBounds.p2.mono   : ∀ (k k' : Nat) (n0 : Int) (old13 : Int) (i14 : Int) (c5b : TCache) (s6 : (List TCached)) (r : Bool), k ≤ k' → erasurelaw30_CacheBounds.p2 k n0 old13 i14 c5b s6 = some r → erasurelaw30_CacheBounds.p2 k' n0 old13 i14 c5b s6 = some r := by
  intro k
  induction k with
  | zero => intro k' n0 old13 i14 c5b s6 r hk h; simp [erasurelaw30_CacheBounds.p2] at h
  | succ k ih =>
    intro k' n0 old13 i14 c5b s6 r hk h
    obtain ⟨k', rfl⟩ : ∃ m, k' = m + 1 := ⟨k' - 1, by omega⟩
    replace hk := Nat.le_of_succ_le_succ hk
    rw [erasurelaw30_CacheBounds.p2] at h ⊢
    rcases ite_or h with ⟨g_15, h⟩ | ⟨g_15, h⟩
    · refine itp g_15 ?_
      obtain ⟨g_16, h⟩ := ite_some h
      refine itp g_16 ?_
      obtain ⟨g_17, h⟩ := ite_some h
      refine itp g_17 ?_
      rcases ite_or h with ⟨g_18, h⟩ | ⟨g_18, h⟩
      · refine itp g_18 ?_
        exact ih _ _ _ _ _ _ r hk h
      · refine itn g_18 ?_
        exact ih _ _ _ _ _ _ r hk h
    · refine itn g_15 ?_
      obtain ⟨y_19, e_20, h⟩ := bind_or h
      refine bnd (erasureref01_Int.mono _ _ _ _ hk e_20) ?_
      obtain ⟨y_21, e_22, h⟩ := bind_or h
      refine bnd (cache_Lookup.mono _ _ _ _ _ _ _ _ hk e_22) ?_
      rcases ite_or h with ⟨g_23, h⟩ | ⟨g_23, h⟩
      · refine itp g_23 ?_
        exact h
      · refine itn g_23 ?_
        rcases ite_or h with ⟨g_24, h⟩ | ⟨g_24, h⟩
        · refine itp g_24 ?_
          exact h
        · refine itn g_24 ?_
          exact erasurelaw30_CacheBounds.p3.mono _ _ _ _ _ _ r hk h
theorem erasurelaw30_CacheBounds.p1.mono   : ∀ (k k' : Nat) (n0 : Int) (order1 : (List Int)) (last7 : Int) (i8 : Int) (c5b : TCache) (s6 : (List TCached)) (r : Bool), k ≤ k' → erasurelaw30_CacheBounds.p1 k n0 order1 last7 i8 c5b s6 = some r → erasurelaw30_CacheBounds.p1 k' n0 order1 last7 i8 c5b s6 = some r := by
  intro k
  induction k with
  | zero => intro k' n0 order1 last7 i8 c5b s6 r hk h; simp [erasurelaw30_CacheBounds.p1] at h
  | succ k ih =>
    intro k' n0 order1 last7 i8 c5b s6 r hk h
    obtain ⟨k', rfl⟩ : ∃ m, k' = m + 1 := ⟨k' - 1, by omega⟩
    replace hk := Nat.le_of_succ_le_succ hk
    rw [erasurelaw30_CacheBounds.p1] at h ⊢
    rcases ite_or h with ⟨g_1, h⟩ | ⟨g_1, h⟩
    · refine itp g_1 ?_
      rcases ite_or h with ⟨g_2, h⟩ | ⟨g_2, h⟩
      · refine itp g_2 ?_
        obtain ⟨g_3, h⟩ := ite_some h
        refine itp g_3 ?_
        obtain ⟨y_4, e_5, h⟩ := bind_or h
        refine bnd (erasureref01_Int.mono _ _ _ _ hk e_5) ?_
        obtain ⟨y_6, e_7, h⟩ := bind_or h
        refine bnd (cache_Lookup.mono _ _ _ _ _ _ _ _ hk e_7) ?_
        rcases ite_or h with ⟨g_8, h⟩ | ⟨g_8, h⟩
        · refine itp g_8 ?_
          exact h
        · refine itn g_8 ?_
          exact ih _ _ _ _ _ _ _ r hk h
      · refine itn g_2 ?_
        obtain ⟨y_9, e_10, h⟩ := bind_or h
        refine bnd (erasureref01_Int.mono _ _ _ _ hk e_10) ?_
        obtain ⟨y_11, e_12, h⟩ := bind_or h
        refine bnd (cache_Lookup.mono _ _ _ _ _ _ _ _ hk e_12) ?_
        rcases ite_or h with ⟨g_13, h⟩ | ⟨g_13, h⟩
        · refine itp g_13 ?_
          exact h
        · refine itn g_13 ?_
          exact ih _ _ _ _ _ _ _ r hk h
    · refine itn g_1 ?_
      rcases ite_or h with ⟨g_14, h⟩ | ⟨g_14, h⟩
      · refine itp g_14 ?_
        exact h
      · refine itn g_14 ?_
        exact erasurelaw30_CacheBounds.p2.mono _ _ _ _ _ _ _ r hk h
theorem erasurelaw30_CacheBounds.mono   : ∀ (k k' : Nat) (n0 : Int) (order1 : (List Int)) (r : Bool), k ≤ k' → erasurelaw30_CacheBounds k n0 order1 = some r → erasurelaw30_CacheBounds k' n0 order1 = some r := by
  intro k k' n0 order1 r hk h
  unfold erasurelaw30_CacheBounds at h ⊢
  exact erasurelaw30_CacheBounds.p1.mono _ _ _ _ _ _ _ _ r hk h
theorem erasurelaw30_CacheBounds.spec {k : Nat} {n0 : Int} {order1 : (List Int)} {r : Bool} (h : erasurelaw30_CacheBounds k n0 order1 = some r) : Spec Try.prog 5 [.p (.int .i64 n0), .p (eL 1 (cI .i64) (0 : Int) order1)] (.p (.bool r)) [] :=
  spec_of mix Try.func5 (body := bodyOf Try.f5) (by kernel_rfl) (by kernel_rfl) (erasurelaw30_CacheBounds.run h)
end Go.Proofs.YtjhnpaenhdbhpabV
set_option linter.unusedVariables false
set_option linter.unusedSimpArgs false
namespace Go.Proofs.YtjhnpaenhdbhpabV
open Go Go.RowKit
theorem awake30_ev : Ev (fun k => erasurelaw30_awake k) true := Ev.of (fun k k' hk h => erasurelaw30_awake.mono k k' true hk h) (k := 60) (by kernel_rfl)
end Go.Proofs.YtjhnpaenhdbhpabV
set_option linter.unusedVariables false
set_option linter.unusedSimpArgs false
namespace Go.Proofs.YtjhnpaenhdbhpabV
open Go Go.RowKit
theorem fin_of {l : List TEntry} (h0 : l.length ≤ maxLen ∧ ∀ e0 ∈ l, ((e0.f0.length ≤ maxLen ∧ ∀ e1 ∈ e0.f0, ((Lit.int .i64 e1.f0).wf = true ∧ ((Lit.int .i64 e1.f1).wf = true ∧ e1.f2.size ≤ maxLen))) ∧ (Lit.int .i64 e0.f1).wf = true)) : Fin l :=
  ⟨by have := h0.1; simp only [maxLen] at this; omega, fun e he => by have := (h0.2 e he).1.1; simp only [maxLen] at this; omega⟩
theorem aw30 : Ev (fun k => (erasurelaw30_awake k).bind fun y => some y) true := Ev.bind awake30_ev (Ev.now _)
theorem touS_len (m p : List TEntry) (c : Int) : (touS m p c).length ≤ m.length + p.length := by
  have h1 := (fold_perm (valsE (m ++ p) c) [] [] (List.Perm.refl _)).length_eq
  have h2 := fold_len (valsE (m ++ p) c) []
  simp only [valsE, List.length_map, List.length_append, List.length_nil] at h2
  unfold touS
  simp only [valsE] at h1 ⊢
  omega
theorem small_ev (l : List TCached) (hl : FinC l) : ∃ b, Ev (fun k => erasurelaw30_small k l) b := by
  refine ⟨(l.all fun x => x.f1.all (fun e => decide (e.f0.length ≤ 20)) && decide (x.f1.length ≤ 40)) && decide ((l.length : Int) ≤ 30), ?_⟩
  have h1 := hl.1
  unfold erasurelaw30_small
  refine (loop_down (P := fun i => Ev (fun k => erasurelaw30_small.p1 k l (i : Int)) (((l.drop i).all fun x => x.f1.all (fun e => decide (e.f0.length ≤ 20)) && decide (x.f1.length ≤ 40)) && decide ((l.length : Int) ≤ 30))) l.length ?_ ?_ 0 (by omega))
  · refine Ev.succ ?_
    simp only [erasurelaw30_small.p1, decide_eq_true_eq]
    exact Ev.ite_neg (by omega) (Ev.done (by simp))
  · intro i hi ih
    refine Ev.succ ?_
    simp only [erasurelaw30_small.p1, decide_eq_true_eq]
    refine Ev.ite_pos (by omega) (Ev.ite_pos (by omega) (Ev.bind (short_ev _ (hl.2 _ (getD_mem _ hi)).1) ?_))
    rw [dC hi, wrn hi h1, List.all_cons]
    cases h : ((l.getD (i : Int).toNat dCached).f1.all (fun e => decide (e.f0.length ≤ 20)) && decide ((l.getD (i : Int).toNat dCached).f1.length ≤ 40)) with
    | false => exact Ev.ite_pos rfl (Ev.done (by simp))
    | true => exact Ev.ite_neg (by simp) (ih.to (by simp))
theorem finC_of {l : List TCached} (h1 : (l.length ≤ maxLen ∧ ∀ e0 ∈ l, (((Lit.int .i64 e0.f0.f0).wf = true ∧ ((Lit.int .i64 e0.f0.f1).wf = true ∧ e0.f0.f2.size ≤ maxLen)) ∧ ((e0.f1.length ≤ maxLen ∧ ∀ e1 ∈ e0.f1, ((e1.f0.length ≤ maxLen ∧ ∀ e2 ∈ e1.f0, ((Lit.int .i64 e2.f0).wf = true ∧ ((Lit.int .i64 e2.f1).wf = true ∧ e2.f2.size ≤ maxLen))) ∧ (Lit.int .i64 e1.f1).wf = true)) ∧ (Lit.int .i64 e0.f2).wf = true)))) : FinC l :=
  ⟨by have := h1.1; simp only [maxLen] at this; omega, fun x hx => fin_of (h1.2 x hx).2.1⟩
end Go.Proofs.YtjhnpaenhdbhpabV
set_option linter.unusedVariables false
set_option linter.unusedSimpArgs false
namespace Go.Proofs.YtjhnpaenhdbhpabV
open Go Go.RowKit
theorem fold_mem (x : TValue) : ∀ (L out : List TValue), x ∈ L.foldl insU out ↔ x ∈ L ∨ x ∈ out
  | [], out => by simp
  | v :: L, out => by
    rw [List.foldl_cons, fold_mem x L, List.mem_cons]
    have : x ∈ insU out v ↔ x = v ∨ x ∈ out := by
      unfold insU
      split
      · rename_i h; exact ⟨Or.inr, fun h' => h'.elim (fun e => e ▸ h) id⟩
      · exact insV_mem
    rw [this]
    constructor
    · rintro (h | h | h)
      · exact Or.inl (Or.inr h)
      · exact Or.inl (Or.inl h)
      · exact Or.inr h
    · rintro ((h | h) | h)
      · exact Or.inr (Or.inl h)
      · exact Or.inl h
      · exact Or.inr (Or.inr h)
end Go.Proofs.YtjhnpaenhdbhpabV
set_option linter.unusedVariables false
set_option linter.unusedSimpArgs false
namespace Go.Proofs.YtjhnpaenhdbhpabV
open Go Go.RowKit
theorem touS_iff (b : List TEntry) (c : Int) (v : TValue) : v ∈ touS b [] c ↔ selS b c v ≠ [] := by
  unfold touS
  rw [fold_mem, List.append_nil]
  constructor
  · rintro (h | h)
    · obtain ⟨e, he, rfl⟩ := List.mem_map.1 h
      intro q
      have : e ∈ selS b c (atV e.f0 c) := List.mem_filter.2 ⟨he, by simp⟩
      rw [q] at this; cases this
    · cases h
  · intro h
    obtain ⟨e, he⟩ := List.exists_mem_of_ne_nil _ h
    have := List.mem_filter.1 he
    exact Or.inl (List.mem_map.2 ⟨e, this.1, by simpa using this.2⟩)
theorem forgets_p2 (s u : List TCached) (L : List TValue) (n i : Nat) (b : List TEntry) (c : Int) (hs : cacheV s = true) (hi : i < s.length) (hL : L.length ≤ 1000000) (hu : u.length ≤ 1000000) (hn : n ≤ u.length) (hLb : ∀ v, v ∈ L ↔ selS b c v ≠ []) (hdrop : u.drop n = (s.drop i).filterMap (refF b c 3)) :
    ∀ k, k ≤ L.length → ∀ f : Bool, f = decide ((s.getD (i : Int).toNat dCached).f0 ∈ L.take k) →
      EvU (fun rec1 => ∀ m : Nat, m ≤ u.length → u.drop m = (s.drop (i + 1)).filterMap (refF b c 3) → rec1 s (m : Int) (IntKind.i64.wrap ((i : Int) + 1)) u L = some true) (fun rec1 q => erasurelaw30_CacheForgets.p2 rec1 q s (n : Int) (i : Int) f (k : Int) u L) true := by
  refine loop_down (P := fun k => ∀ f : Bool, f = decide ((s.getD (i : Int).toNat dCached).f0 ∈ L.take k) →
      EvU (fun rec1 => ∀ m : Nat, m ≤ u.length → u.drop m = (s.drop (i + 1)).filterMap (refF b c 3) → rec1 s (m : Int) (IntKind.i64.wrap ((i : Int) + 1)) u L = some true) (fun rec1 q => erasurelaw30_CacheForgets.p2 rec1 q s (n : Int) (i : Int) f (k : Int) u L) true) L.length ?_ ?_
  · intro f hf
    refine EvU.succ ?_
    simp only [erasurelaw30_CacheForgets.p2, decide_eq_true_eq, eqV_iff]
    rw [List.take_length] at hf
    refine EvU.ite_neg (by omega) ?_
    have hx := cacheV_mem hs _ (getD_mem dCached hi)
    rw [dC hi, List.filterMap_cons] at hdrop
    by_cases h : (s.getD (i : Int).toNat dCached).f0 ∈ L
    · rw [decide_eq_true h] at hf
      subst hf
      have hsel : ¬ selS b c (clV (s.getD (i : Int).toNat dCached).f0) = [] := by rw [clV_ok hx.1]; exact (hLb _).1 h
      simp only [refF, if_neg hsel] at hdrop
      have hnu : n < u.length := by
        by_cases q : n < u.length
        · exact q
        · rw [drop_out q] at hdrop; cases hdrop
      rw [dC hnu] at hdrop
      injection hdrop with g1 g2
      rw [g1]
      refine EvU.ite_neg (by simp) (EvU.ite_neg (by omega) (EvU.ite_pos (by omega) (EvU.ite_pos (by omega) (EvU.ite_neg (by simp) (EvU.ite_neg (by simp) (EvU.ite_neg (by simpa using hsel) (EvU.rec fun x hx => ?_)))))))
      rw [show IntKind.i64.wrap ((n : Int) + 1) = ((n + 1 : Nat) : Int) from wrn hnu (by omega)]
      exact hx (n + 1) hnu g2
    · rw [decide_eq_false h] at hf
      subst hf
      have hsel : selS b c (clV (s.getD (i : Int).toNat dCached).f0) = [] := by
        rw [clV_ok hx.1]
        exact Classical.byContradiction fun q => h ((hLb _).2 q)
      simp only [refF, if_pos hsel] at hdrop
      exact EvU.ite_pos rfl (EvU.rec fun x hx => hx n hn hdrop)
  · intro k hk ih f hf
    refine EvU.succ ?_
    simp only [erasurelaw30_CacheForgets.p2, decide_eq_true_eq, eqV_iff]
    refine EvU.ite_pos (by omega) ?_
    rw [wrn hk (by omega)]
    have htk : L.take (k + 1) = L.take k ++ [L.getD (k : Int).toNat dValue] := by
      rw [List.take_succ_eq_append_getElem hk]; simp [hk]
    cases f with
    | true =>
      refine EvU.ite_pos rfl (ih true ?_)
      rw [htk]
      have h : (s.getD (i : Int).toNat dCached).f0 ∈ L.take k := by simpa using hf
      symm
      simp only [decide_eq_true_eq, List.mem_append]
      exact Or.inl h
    | false =>
      refine EvU.ite_neg (by simp) (EvU.ite_pos (by omega) (EvU.ite_pos (by omega) (ih _ ?_)))
      rw [htk]
      have h : (s.getD (i : Int).toNat dCached).f0 ∉ L.take k := by simpa using hf
      rw [Bool.eq_iff_iff]
      simp only [decide_eq_true_eq, List.mem_append, List.mem_singleton, h, false_or]
      exact ⟨fun e => e.symm, fun e => e.symm⟩
theorem CacheForgets_std (x0 : TCache) (x1 : (List TCached)) (x2 : (List TEntry)) (h0 : (x0.f0.size ≤ maxLen ∧ (x0.f1.size ≤ maxLen ∧ ((Lit.int .i64 x0.f2).wf = true ∧ (Lit.int .i64 x0.f3).wf = true)))) (h1 : (x1.length ≤ maxLen ∧ ∀ e0 ∈ x1, (((Lit.int .i64 e0.f0.f0).wf = true ∧ ((Lit.int .i64 e0.f0.f1).wf = true ∧ e0.f0.f2.size ≤ maxLen)) ∧ ((e0.f1.length ≤ maxLen ∧ ∀ e1 ∈ e0.f1, ((e1.f0.length ≤ maxLen ∧ ∀ e2 ∈ e1.f0, ((Lit.int .i64 e2.f0).wf = true ∧ ((Lit.int .i64 e2.f1).wf = true ∧ e2.f2.size ≤ maxLen))) ∧ (Lit.int .i64 e1.f1).wf = true)) ∧ (Lit.int .i64 e0.f2).wf = true)))) (h2 : (x2.length ≤ maxLen ∧ ∀ e0 ∈ x2, ((e0.f0.length ≤ maxLen ∧ ∀ e1 ∈ e0.f0, ((Lit.int .i64 e1.f0).wf = true ∧ ((Lit.int .i64 e1.f1).wf = true ∧ e1.f2.size ≤ maxLen))) ∧ (Lit.int .i64 e0.f1).wf = true))) : ∃ k, erasurelaw30_CacheForgets k x0 x1 x2 = some true := by
  have fc := finC_of h1
  have fr := fin_of h2
  refine Ev.some (g := fun k => erasurelaw30_CacheForgets k x0 x1 x2) ?_
  unfold erasurelaw30_CacheForgets
  simp only [decide_eq_true_eq]
  obtain ⟨b0, hb0⟩ := small_ev x1 fc
  refine Ev.bind hb0 ?_
  cases b0 with
  | false => exact Ev.ite_pos rfl aw30
  | true =>
  refine Ev.ite_neg (by simp) (Ev.bind (short_ev x2 fr.1) ?_)
  cases hs : (x2.all (fun e => decide (e.f0.length ≤ 20)) && decide (x2.length ≤ 40)) with
  | false => exact Ev.ite_pos rfl aw30
  | true =>
  simp only [Bool.and_eq_true, decide_eq_true_eq] at hs
  refine Ev.ite_neg (by simp) ?_
  by_cases t1 : x0.f3 < 0
  · exact Ev.ite_pos t1 aw30
  refine Ev.ite_neg t1 ?_
  by_cases t2 : x0.f3 > 1000
  · exact Ev.ite_pos t2 aw30
  refine Ev.ite_neg t2 (Ev.bind (ref06_Normalize_ev x2 (by omega)) ?_)
  by_cases hn : (normS x2).2 = 0
  · obtain ⟨n1, n2⟩ := normS_ok hn
    rw [n1, hn]
    have bl := bagV_len n2
    refine Ev.ite_neg (by simp) (Ev.bind (ref30_Valid_ev x1 fc) ?_)
    cases hv : cacheV x1 with
    | false => exact Ev.ite_pos rfl aw30
    | true =>
    have vl := cacheV_len hv
    refine Ev.ite_neg (by simp) (Ev.bind (Refill_ev x0 x1 _ 3 fc (bagV_fin n2)) (Ev.bind (touched_p1 x0.f2 _ [] (by omega) (by simp)) ?_))
    have hR : refS x0 x1 (sumS x2) 3 = x1.filterMap (refF (sumS x2) x0.f2 3) := by
      unfold refS
      have d1 : okD x0.f3 = true := decide_eq_true (by omega)
      have d2 : okD 3 = true := rfl
      rw [hv, n2, d1, d2]; rfl
    have hLb := touS_iff (sumS x2) x0.f2
    have hll := touS_len (sumS x2) [] x0.f2
    simp only [List.length_nil] at hll
    generalize touS (sumS x2) [] x0.f2 = L at hLb hll
    have hul : (refS x0 x1 (sumS x2) 3).length ≤ x1.length := by rw [hR]; exact List.length_filterMap_le _ _
    generalize refS x0 x1 (sumS x2) 3 = u at hR hul
    have key : ∀ i, i ≤ x1.length → ∀ m : Nat, m ≤ u.length → u.drop m = (x1.drop i).filterMap (refF (sumS x2) x0.f2 3) → Ev (fun k => erasurelaw30_CacheForgets.p1 k x1 (m : Int) (i : Int) u L) true := by
      refine loop_down (P := fun i => ∀ m : Nat, m ≤ u.length → u.drop m = (x1.drop i).filterMap (refF (sumS x2) x0.f2 3) → Ev (fun k => erasurelaw30_CacheForgets.p1 k x1 (m : Int) (i : Int) u L) true) x1.length ?_ ?_
      · intro m hm hd
        rw [List.drop_length, List.filterMap_nil, List.drop_eq_nil_iff] at hd
        refine Ev.succ ?_
        simp only [erasurelaw30_CacheForgets.p1, decide_eq_true_eq, beq_iff_eq]
        exact Ev.ite_neg (by omega) (Ev.ite_pos (by omega) aw30)
      · intro i hi ih m hm hd
        refine Ev.succ ?_
        simp only [erasurelaw30_CacheForgets.p1, decide_eq_true_eq]
        refine Ev.ite_pos (by omega) ?_
        refine EvU.use (F := fun k => erasurelaw30_CacheForgets.p1 k) (forgets_p2 x1 u L m i (sumS x2) x0.f2 hv hi (by omega) (by omega) hm hLb hd 0 (by omega) false (by simp)) ?_
        rw [wrn hi (by omega)]
        have : ∃ K, ∀ k, K ≤ k → ∀ q : Nat, q < u.length + 1 → u.drop q = (x1.drop (i + 1)).filterMap (refF (sumS x2) x0.f2 3) → erasurelaw30_CacheForgets.p1 k x1 (q : Int) ((i + 1 : Nat) : Int) u L = some true := by
          have aux : ∀ M, M ≤ u.length + 1 → ∃ K, ∀ k, K ≤ k → ∀ q : Nat, q < M → u.drop q = (x1.drop (i + 1)).filterMap (refF (sumS x2) x0.f2 3) → erasurelaw30_CacheForgets.p1 k x1 (q : Int) ((i + 1 : Nat) : Int) u L = some true := by
            intro M
            induction M with
            | zero => intro _; exact ⟨0, fun k _ q hq => by omega⟩
            | succ M ihM =>
              intro hM
              obtain ⟨K, hK⟩ := ihM (by omega)
              by_cases hq : u.drop M = (x1.drop (i + 1)).filterMap (refF (sumS x2) x0.f2 3)
              · obtain ⟨K', hK'⟩ := ih M (by omega) hq
                refine ⟨max K K', fun k hk q hqM hqd => ?_⟩
                by_cases e : q = M
                · subst e; exact hK' k (by omega)
                · exact hK k (by omega) q (by omega) hqd
              · refine ⟨K, fun k hk q hqM hqd => ?_⟩
                by_cases e : q = M
                · subst e; exact absurd hqd hq
                · exact hK k hk q (by omega) hqd
          exact aux _ (Nat.le_refl _)
        obtain ⟨K, hK⟩ := this
        exact ⟨K, fun k hk q hq hqd => hK k hk q (by omega) hqd⟩
    exact key 0 (by omega) 0 (by omega) (by rw [List.drop_zero, List.drop_zero]; exact hR)
  · exact Ev.ite_pos (by simpa using hn) aw30
end Go.Proofs.YtjhnpaenhdbhpabV
set_option linter.unusedVariables false
set_option linter.unusedSimpArgs false
set_option linter.constructorNameAsVariable false
namespace Go.Proofs.YtjhnpaenhdbhpabV
open Go Go.RowKit
def RepL (F : Nat → Prop) (w : World) : List AV → List Value → Prop
  | [], [] => True
  | a :: l, v :: m => Rep F w a v ∧ RepL F w l m
  | _, _ => False
theorem RepL.len {F : Nat → Prop} {w : World} : ∀ {l : List AV} {m : List Value}, RepL F w l m → l.length = m.length
  | [], [], _ => rfl
  | _ :: _, _ :: _, h => by simp [RepL.len h.2]
  | [], _ :: _, h => h.elim
  | _ :: _, [], h => h.elim
theorem RepL.get {F : Nat → Prop} {w : World} : ∀ {l : List AV} {m : List Value}, RepL F w l m → ∀ (i : Nat) (v : Value), m[i]? = some v → Rep F w (l.getD i .u) v
  | [], [], _, i, v, h => by simp at h
  | a :: l, u :: m, h, i, v, hv => by
    cases i with
    | zero =>
      simp only [List.getElem?_cons_zero, Option.some.injEq] at hv
      subst hv
      exact h.1
    | succ i => simpa using RepL.get h.2 i v (by simpa using hv)
  | [], _ :: _, h, _, _, _ => h.elim
  | _ :: _, [], h, _, _, _ => h.elim
theorem RepL.app {F : Nat → Prop} {w : World} : ∀ {l : List AV} {m : List Value} {l' : List AV} {m' : List Value}, RepL F w l m → RepL F w l' m' → RepL F w (l ++ l') (m ++ m')
  | [], [], _, _, _, k => k
  | _ :: _, _ :: _, _, _, h, k => ⟨h.1, RepL.app h.2 k⟩
  | [], _ :: _, _, _, h, _ => h.elim
  | _ :: _, [], _, _, h, _ => h.elim
theorem RepL.fv {F : Nat → Prop} {w : World} {κ : Nat → Value} {hp : List Ob} : ∀ {l : List AV} {m : List Value}, RepL F w l m → RelVs ⟨F, w, κ, hp⟩ (l.map .p) m
  | [], [], _ => by simp [RelVs]
  | a :: l, v :: m, h => by simp only [List.map_cons, RelVs]; exact ⟨v, m, rfl, by simp only [RelV]; exact h.1, RepL.fv h.2⟩
  | [], _ :: _, h => h.elim
  | _ :: _, [], h => h.elim
abbrev oldF (W : World) : Nat → Prop := fun b => b < W.heap.size
structure Op1 {α : Type} (P : Program) (t : TypeId) (c : α → List AV) (B : α → Prop) : Prop where mk ::
  out : ∀ {H : Type} (enc : TypeId × Value → H) (W : World) (fuel : Nat) (cs : List Value) (y : DataW H × List MemPlace), DataW.trod enc P W 0 (fun _ => true) true fuel t cs = some y → ∃ x, RepL (oldF W) W (c x) cs ∧ B x
theorem op1_int {P : Program} {t : TypeId} {k : IntKind} (ht : P.underlying t = some (.int k)) : Op1 P t (cI k) (fun n => (Lit.int k n).wf = true) := by
  constructor
  intro H enc W fuel cs y h
  obtain ⟨n, rfl, _, hw⟩ := DataW.trod_int ht h
  exact ⟨n, ⟨rfl, trivial⟩, hw⟩
theorem op1_string {P : Program} {t : TypeId} (ht : P.underlying t = some .string) : Op1 P t cS (fun s => s.size ≤ maxLen) := by
  constructor
  intro H enc W fuel cs y h
  obtain ⟨n, rfl, _, hs⟩ := DataW.trod_string ht h
  exact ⟨n, ⟨rfl, trivial⟩, hs⟩
theorem cell_add {W : World} {a : Addr} {n : Nat} {u : Value} (h : W.cell? (a.add n) = some u) : W.cell? ⟨a.block, a.off + n, none⟩ = some u := by
  unfold Addr.add at h
  split at h
  · rename_i hn
    subst hn
    have hs : a.spot = none := by
      unfold World.cell? at h
      split at h
      · split at h
        · cases h
        · rename_i hs; cases hq : a.spot with
          | none => rfl
          | some x => simp [hq] at hs
      · cases h
    cases a
    simp only at hs
    subst hs
    exact h
  · exact h
theorem spot_none {W : World} {a : Addr} {u : Value} (h : W.cell? a = some u) : a = ⟨a.block, a.off, none⟩ := by
  have hs : a.spot = none := by
    unfold World.cell? at h
    split at h
    · split at h
      · cases h
      · rename_i hs; cases hq : a.spot with
        | none => rfl
        | some x => simp [hq] at hs
    · cases h
  cases a
  simp only at hs
  subst hs
  rfl
theorem op1_slice {α : Type} {P : Program} {t e : TypeId} {sz : Nat} {c : α → List AV} (d : α) {B : α → Prop} (ht : P.underlying t = some (.slice e)) (hd : Op1 P e c B) (hc : P.cellsOf e = sz) (hs : ∀ x, (c x).length = sz) (h0 : 0 < sz) : Op1 P t (cL sz c d) (fun xs => xs.length ≤ maxLen ∧ ∀ x ∈ xs, B x) := by
  constructor
  intro H enc W fuel cs y h
  rcases DataW.trod_slice ht h with ⟨rfl, _⟩ | ⟨a, len, cap, elems, rest, n, _, rfl, _, _, hl, hm, hel, hat, _, _⟩
  · exact ⟨[], ⟨⟨none, 0, rfl, Nat.le_refl _, fun _ => rfl, .inl rfl⟩, trivial⟩, by simp [maxLen], fun x hx => by cases hx⟩
  · have key : ∀ i, i < len → ∃ x cs', cs'.length = sz ∧ RepL (oldF W) W (c x) cs' ∧ B x ∧ ∀ j u, cs'[j]? = some u → W.cell? (a.add (i * sz + j)) = some u := by
      intro i hi
      have h1 := hat i hi
      rw [List.getElem?_eq_getElem (by omega)] at h1
      obtain ⟨cs', h2, h3⟩ := Option.bind_eq_some_iff.1 h1
      obtain ⟨x, hk, hb⟩ := hd.out enc W n cs' _ h3
      have hlen : cs'.length = sz := by rw [← hs x, hk.len]
      refine ⟨x, cs', hlen, hk, hb, fun j u hu => ?_⟩
      rw [hc] at h2
      unfold World.cells? at h2
      rw [if_pos (Nat.zero_le _)] at h2
      have h4 := mapM_some_get h2 j j (by
        have := (List.getElem?_eq_some_iff.1 hu).1
        rw [hlen] at this
        simp [this])
      rw [hu] at h4
      have ha : (a.add (i * sz)).add j = a.add (i * sz + j) := by
        unfold Addr.add
        by_cases e1 : i * sz = 0 <;> by_cases e2 : j = 0 <;> simp [e1, e2, Nat.add_assoc]
      rw [ha] at h4
      exact h4
    have key2 : ∀ m, m ≤ len → ∃ xs : List α, xs.length = m ∧ (∀ x ∈ xs, B x) ∧ ∀ i x, xs[i]? = some x → ∃ cs', cs'.length = sz ∧ RepL (oldF W) W (c x) cs' ∧ ∀ j u, cs'[j]? = some u → W.cell? (a.add (i * sz + j)) = some u := by
      intro m
      induction m with
      | zero => intro _; exact ⟨[], rfl, fun x hx => (by cases hx), fun i x hx => by simp at hx⟩
      | succ m ih =>
        intro hm2
        obtain ⟨xs, h1, h2, h3⟩ := ih (by omega)
        obtain ⟨x, c', h4, h5, h6, h7⟩ := key m (by omega)
        refine ⟨xs ++ [x], by simp [h1], fun y hy => ?_, fun i y hy => ?_⟩
        · rcases List.mem_append.1 hy with hy | hy
          · exact h2 y hy
          · rw [List.mem_singleton.1 hy]; exact h6
        · rcases Nat.lt_or_ge i xs.length with hi | hi
          · rw [List.getElem?_append_left hi] at hy; exact h3 i y hy
          · have hi2 : i = xs.length := by
              have := (List.getElem?_eq_some_iff.1 hy).1
              simp at this
              omega
            subst hi2
            simp at hy
            subst hy
            rw [h1]
            exact ⟨c', h4, h5, h7⟩
    obtain ⟨xs, h1, h2, h3⟩ := key2 len (Nat.le_refl _)
    refine ⟨xs, ⟨⟨some a, cap, by rw [h1], by rw [h1]; omega, fun h => (nomatch h), ?_⟩, trivial⟩, by rw [h1]; simp only [maxLen] at hm ⊢; omega, h2⟩
    rcases Nat.eq_zero_or_pos len with hz | hz
    · left; rw [h1, hz]
    · right
      have hcell : ∀ i, i < len → ∀ j, j < sz → ∃ u, W.cell? (a.add (i * sz + j)) = some u ∧ Rep (oldF W) W ((c (xs.getD i d)).getD j .u) u := by
        intro i hi j hj
        have hxi : xs[i]? = some (xs.getD i d) := by rw [List.getD_eq_getElem?_getD, List.getElem?_eq_getElem (by omega)]; rfl
        obtain ⟨cs', k1, k2, k3⟩ := h3 i _ hxi
        have hcj : cs'[j]? = some (cs'[j]'(by omega)) := List.getElem?_eq_getElem (by omega)
        exact ⟨_, k3 j _ hcj, k2.get j _ hcj⟩
      obtain ⟨u0, hu0, _⟩ := hcell 0 hz 0 h0
      have ha0 : a.add (0 * sz + 0) = a := by simp [Addr.add]
      rw [ha0] at hu0
      refine ⟨a.block, a.off, by rw [← spot_none hu0], World.block_lt_of_cell? W a hu0, fun i hi j hj => ?_⟩
      rw [h1] at hi
      obtain ⟨u, k1, k2⟩ := hcell i hi j hj
      exact ⟨u, cell_add k1, k2⟩
structure OpFs {α : Type} (P : Program) (fs : List Field) (off sz : Nat) (c : α → List AV) (B : α → Prop) : Prop where mk ::
  out : ∀ {H : Type} (enc : TypeId × Value → H) (W : World) (fuel : Nat) (cs : List Value) (ys : List (DataW H × List MemPlace)), cs.length = off + sz → ys.length = fs.length →
    (∀ (i : Nat) (f : Field), fs[i]? = some f → DataW.trod enc P W 0 (fun _ => true) true fuel f.type ((cs.drop f.offset).take (P.cellsOf f.type)) = ys[i]?) → ∃ x, RepL (oldF W) W (c x) (cs.drop off) ∧ B x
theorem opFs_one {α : Type} {P : Program} {f : Field} {off sz : Nat} {c : α → List AV} {B : α → Prop} (ho : f.offset = off) (hc : P.cellsOf f.type = sz) (hd : Op1 P f.type c B) : OpFs P [f] off sz c B := by
  constructor
  intro H enc W fuel cs ys hl hy h
  have h0 := h 0 f rfl
  rw [List.getElem?_eq_getElem (by rw [hy]; exact Nat.zero_lt_one), ho, hc, List.take_of_length_le (by rw [List.length_drop]; omega)] at h0
  exact hd.out enc W fuel _ _ h0
theorem opFs_cons {α β : Type} {P : Program} {f : Field} {fs : List Field} {off sa sb : Nat} {a : α → List AV} {b : β → List AV} {Ba : α → Prop} {Bb : β → Prop} (ho : f.offset = off) (hc : P.cellsOf f.type = sa) (hd : Op1 P f.type a Ba) (hs : OpFs P fs (off + sa) sb b Bb) :
    OpFs P (f :: fs) off (sa + sb) (fun x : α × β => a x.1 ++ b x.2) (fun x => Ba x.1 ∧ Bb x.2) := by
  constructor
  intro H enc W fuel cs ys hl hy h
  cases ys with
  | nil => simp at hy
  | cons y ys =>
    have h0 := h 0 f rfl
    rw [ho, hc] at h0
    obtain ⟨x, hx, hbx⟩ := hd.out enc W fuel _ _ h0
    obtain ⟨z, hz, hbz⟩ := hs.out enc W fuel cs ys (by omega) (by simpa using hy) (fun i g hg => h (i + 1) g hg)
    refine ⟨(x, z), ?_, hbx, hbz⟩
    have e : cs.drop off = (cs.drop off).take sa ++ cs.drop (off + sa) := by rw [← List.drop_drop, List.take_append_drop]
    rw [e]
    exact hx.app hz
theorem op1_struct {α β : Type} {P : Program} {t : TypeId} {fs : Array Field} {sz : Nat} {c : β → List AV} {B : β → Prop} (c' : α → List AV) (B' : α → Prop) (g : β → α) (hc' : ∀ y, c' (g y) = c y) (hB : ∀ y, B y → B' (g y)) (ht : P.underlying t = some (.struct fs)) (hc : P.cellsOf t = sz) (hs : OpFs P fs.toList 0 sz c B) :
    Op1 P t c' B' := by
  constructor
  intro H enc W fuel cs y h
  obtain ⟨xs, n, _, _, hl, hx, hi⟩ := DataW.trod_struct ht h
  obtain ⟨x, hk, hb⟩ := hs.out enc W n cs xs (by rw [hl, hc]; omega) (by rw [hx]; simp) (fun i f hf => hi i f (by simpa using hf))
  refine ⟨g x, ?_, hB x hb⟩
  rw [hc']
  simpa using hk
theorem chg_below {w w' : World} (h : Chg (fun _ => False) w w') : Below w.heap.size w w' := ⟨h.os, h.tape, h.output, h.size, fun k hk => h.block k hk (fun h => h)⟩
theorem Spec.law {P : Program} {f : FuncId} {args : List FV} (h : Spec P f args (.p (.bool true)) []) {W : World} {vs : Array Value} (hv : RelVs ⟨oldF W, W, fun _ => undef, []⟩ args vs.toList) : Calls P f vs W fun e W' => e = .returned (.bool true) ∧ Below W.heap.size W W' := by
  refine (h W (oldF W) (fun _ => undef) vs (fun _ h => h) hv).mono fun e W' ⟨v, F', κ', he, hI, hr⟩ => ⟨?_, chg_below hI.chg⟩
  simp only [RelV, Rep] at hr
  rw [he, hr]
end Go.Proofs.YtjhnpaenhdbhpabV
