/- Part of the proof of ReleaseKeys: printed by programs of this repo out of the translation, and by hand. Each theorem's conditions stand in its statement. -/
import Derived.WideShapes
import Derived.ProofKit
import Derived.OpenShut
import Derived.ShutString
import Derived.ChangeOld
import Derived.SizedLaws
import Derived.ChangeSlices
import Derived.Orders
import Derived.Below
import Derived.Laws.AppendOwn
import Derived.Laws.OwnMore
import Derived.KernelRfl
import Derived.Test.YtjhnpaenhdbhpaaMReleaseKeysa
import Derived.Test.YtjhnpaenhdbhpaaMReleaseKeysb
set_option linter.unusedVariables false
set_option linter.unusedSimpArgs false
set_option maxRecDepth 100000
namespace Go.Proofs.YtjhnpaenhdbhpaaV
open Go Go.RowKit
noncomputable def erasurelaw35_ReleaseKeys  (k : Nat) (keys0 : (List TValue)) (n1 : Int) (more2 : (List TValue)) : Option Bool := if (decide (((keys0).length : Int) > 7)) = true then ((erasurelaw35_awake k ).bind fun y_2 => (some y_2)) else (if (decide (((more2).length : Int) > 7)) = true then ((erasurelaw35_awake k ).bind fun y_5 => (some y_5)) else ((erasureref26_CleanRow k keys0).bind fun y_7 => (if (([] : List TValue)).length + (y_7).length ≤ maxLen ∧ ((([] : List TValue)).length + (y_7).length) * 32 ≤ 140737488355328 then ((erasureref01_Int k (Go.bits .and .i64 n1 1023)).bind fun y_10 => (if ((([] : List TValue) ++ y_7)).length + ([y_10]).length ≤ maxLen ∧ (((([] : List TValue) ++ y_7)).length + ([y_10]).length) * 32 ≤ 140737488355328 then (if (([] : List TValue)).length + (((([] : List TValue) ++ y_7) ++ ([y_10]))).length ≤ maxLen ∧ ((([] : List TValue)).length + (((([] : List TValue) ++ y_7) ++ ([y_10]))).length) * 32 ≤ 140737488355328 then ((erasureref26_CleanRow k more2).bind fun y_14 => (if ((([] : List TValue) ++ ((([] : List TValue) ++ y_7) ++ ([y_10])))).length + (y_14).length ≤ maxLen ∧ (((([] : List TValue) ++ ((([] : List TValue) ++ y_7) ++ ([y_10])))).length + (y_14).length) * 32 ≤ 140737488355328 then ((release_Publish k (TRelease.mk (⟨#[]⟩ : ByteArray) (⟨#[]⟩ : ByteArray) 10) ((keys0).length : Int) ([(TEntry.mk ((([] : List TValue) ++ y_7) ++ ([y_10])) 1)])).bind fun y_17 => ((release_Publish k (TRelease.mk (⟨#[]⟩ : ByteArray) (⟨#[]⟩ : ByteArray) 10) ((keys0).length : Int) ([(TEntry.mk ((([] : List TValue) ++ ((([] : List TValue) ++ y_7) ++ ([y_10]))) ++ y_14) 1)])).bind fun y_19 => ((release_Publish k (TRelease.mk (⟨#[]⟩ : ByteArray) (⟨#[]⟩ : ByteArray) 10) ((keys0).length : Int) ([(TEntry.mk ((([] : List TValue) ++ y_7) ++ ([y_10])) 2)])).bind fun y_21 => (if (decide ((Go.bits .and .i64 n1 1023) < 10)) = true then (if (((y_17).length : Int) == 0) = true then (if (((y_19).length : Int) == 0) = true then (if (((y_21).length : Int) == 0) = true then ((erasurelaw35_awake k ).bind fun y_27 => (some y_27)) else (some false)) else (some false)) else (some false)) else (if (((y_17).length : Int) == 1) = true then (if 0 ≤ (0 : Int) ∧ (0 : Int) < ((y_17).length : Int) then ((erasureref26_CleanRow k keys0).bind fun y_31 => ((erasureref26_SameRow k ((y_17.getD (0 : Int).toNat dPublished).f0) y_31).bind fun y_33 => (if y_33 = true then ((erasureref35_Same k y_17 y_19).bind fun y_36 => (if y_36 = true then (if (((y_21).length : Int) == 0) = true then ((erasurelaw35_awake k ).bind fun y_40 => (some y_40)) else (some false)) else (some false))) else (some false)))) else none) else (some false)))))) else none)) else none) else none)) else none)))
noncomputable def erasurelaw35_ReleaseKeys.t : List Item := [.code (bodyOf Try.f6)]
noncomputable def erasurelaw35_ReleaseKeys.s (keys0 : (List TValue)) (n1 : Int) (more2 : (List TValue)) : St := ⟨frOf Try.f6.ntmps 0 [(0, .p (eL 3 cValue dValue keys0)), (1, .p (.int .i64 n1)), (2, .p (eL 3 cValue dValue more2))], []⟩
theorem erasurelaw35_ReleaseKeys.run   {k : Nat} {keys0 : (List TValue)} {n1 : Int} {more2 : (List TValue)} {r : Bool} (h : erasurelaw35_ReleaseKeys k keys0 n1 more2 = some r) : RunC Try.prog Try.f6 erasurelaw35_ReleaseKeys.t (erasurelaw35_ReleaseKeys.s keys0 n1 more2) (.p (.bool r)) [] := by
  unfold erasurelaw35_ReleaseKeys at h
  rcases ite_or h with ⟨g_1, h⟩ | ⟨g_1, h⟩
  · obtain ⟨y_2, e_3, h⟩ := bind_or h
    obtain rfl := Option.some.inj h
    exact RunC.out [.n 4, .r [(3, .dec true)], .n 2, .r [(0, .call (.p (.bool y_2)) [])]] (by kernel_rfl) (Obs.of (by kernel_rfl) (And.intro g_1 (erasurelaw35_awake.spec e_3)))
  · rcases ite_or h with ⟨g_4, h⟩ | ⟨g_4, h⟩
    · obtain ⟨y_5, e_6, h⟩ := bind_or h
      obtain rfl := Option.some.inj h
      exact RunC.out [.n 4, .r [(3, .dec false), (7, .dec true)], .n 2, .r [(0, .call (.p (.bool y_5)) [])]] (by kernel_rfl) (Obs.of (by kernel_rfl) (And.intro (nt g_1) (And.intro g_4 (erasurelaw35_awake.spec e_6))))
    · obtain ⟨y_7, e_8, h⟩ := bind_or h
      obtain ⟨g_9, h⟩ := ite_some h
      obtain ⟨y_10, e_11, h⟩ := bind_or h
      obtain ⟨g_12, h⟩ := ite_some h
      obtain ⟨g_13, h⟩ := ite_some h
      obtain ⟨y_14, e_15, h⟩ := bind_or h
      obtain ⟨g_16, h⟩ := ite_some h
      obtain ⟨y_17, e_18, h⟩ := bind_or h
      obtain ⟨y_19, e_20, h⟩ := bind_or h
      obtain ⟨y_21, e_22, h⟩ := bind_or h
      rcases ite_or h with ⟨g_23, h⟩ | ⟨g_23, h⟩
      · rcases ite_or h with ⟨g_24, h⟩ | ⟨g_24, h⟩
        · rcases ite_or h with ⟨g_25, h⟩ | ⟨g_25, h⟩
          · rcases ite_or h with ⟨g_26, h⟩ | ⟨g_26, h⟩
            · obtain ⟨y_27, e_28, h⟩ := bind_or h
              obtain rfl := Option.some.inj h
              exact RunC.out [.n 4, .r [(3, .dec false), (7, .dec false)], .n 3, .r [(0, .obj (oL true 38 3 cValue dValue ([] : List TValue))), (2, .call (.sref 0 38 3 (y_7).length) [(oL true 38 3 cValue dValue y_7)]), (3, .obj (oL true 38 3 cValue dValue (([] : List TValue) ++ y_7))), (6, .call (.agg ((cValue y_10).map .p)) []), (7, .obj (oL true 38 3 cValue dValue [y_10])), (8, .obj (oL true 38 3 cValue dValue ((([] : List TValue) ++ y_7) ++ ([y_10]))))], .n 1, .r [(0, .obj (oL true 38 3 cValue dValue ([] : List TValue))), (2, .obj (oL true 38 3 cValue dValue (([] : List TValue) ++ ((([] : List TValue) ++ y_7) ++ ([y_10]))))), (4, .call (.sref 0 38 3 (y_14).length) [(oL true 38 3 cValue dValue y_14)]), (5, .obj (oL true 38 3 cValue dValue ((([] : List TValue) ++ ((([] : List TValue) ++ y_7) ++ ([y_10]))) ++ y_14)))], .n 3, .r [(5, .obj (oL true 41 2 cEntry dEntry [(TEntry.mk ((([] : List TValue) ++ y_7) ++ ([y_10])) 1)])), (6, .call (.sref 0 43 2 (y_17).length) [(oL true 43 2 cPublished dPublished y_17)])], .n 1, .r [(5, .obj (oL true 41 2 cEntry dEntry [(TEntry.mk ((([] : List TValue) ++ ((([] : List TValue) ++ y_7) ++ ([y_10]))) ++ y_14) 1)])), (6, .call (.sref 0 43 2 (y_19).length) [(oL true 43 2 cPublished dPublished y_19)])], .n 1, .r [(5, .obj (oL true 41 2 cEntry dEntry [(TEntry.mk ((([] : List TValue) ++ y_7) ++ ([y_10])) 2)])), (6, .call (.sref 0 43 2 (y_21).length) [(oL true 43 2 cPublished dPublished y_21)])], .n 2, .r [(2, .dec true)], .n 2, .r [(3, .dec true), (8, .dec true), (13, .dec true), (14, .call (.p (.bool y_27)) [])]] (by kernel_rfl) (Obs.of (by kernel_rfl) (And.intro (nt g_1) (And.intro (nt g_4) (And.intro (le_build0 38 3 cValue dValue) (And.intro (erasureref26_CleanRow.spec e_8) (And.intro (And.intro g_9 (le_app 38 3 cValue dValue ([] : List TValue) y_7)) (And.intro (erasureref01_Int.spec e_11) (And.intro (le_one 38 3 cValue dValue y_10) (And.intro (And.intro g_12 (le_app 38 3 cValue dValue (([] : List TValue) ++ y_7) ([y_10]))) (And.intro (le_build0 38 3 cValue dValue) (And.intro (And.intro g_13 (le_app 38 3 cValue dValue ([] : List TValue) ((([] : List TValue) ++ y_7) ++ ([y_10])))) (And.intro (erasureref26_CleanRow.spec e_15) (And.intro (And.intro g_16 (le_app 38 3 cValue dValue (([] : List TValue) ++ ((([] : List TValue) ++ y_7) ++ ([y_10]))) y_14)) (And.intro (le_one 41 2 cEntry dEntry (TEntry.mk ((([] : List TValue) ++ y_7) ++ ([y_10])) 1)) (And.intro (release_Publish.spec e_18) (And.intro (le_one 41 2 cEntry dEntry (TEntry.mk ((([] : List TValue) ++ ((([] : List TValue) ++ y_7) ++ ([y_10]))) ++ y_14) 1)) (And.intro (release_Publish.spec e_20) (And.intro (le_one 41 2 cEntry dEntry (TEntry.mk ((([] : List TValue) ++ y_7) ++ ([y_10])) 2)) (And.intro (release_Publish.spec e_22) (And.intro g_23 (And.intro g_24 (And.intro g_25 (And.intro g_26 (erasurelaw35_awake.spec e_28))))))))))))))))))))))))
            · obtain rfl := Option.some.inj h
              exact RunC.out [.n 4, .r [(3, .dec false), (7, .dec false)], .n 3, .r [(0, .obj (oL true 38 3 cValue dValue ([] : List TValue))), (2, .call (.sref 0 38 3 (y_7).length) [(oL true 38 3 cValue dValue y_7)]), (3, .obj (oL true 38 3 cValue dValue (([] : List TValue) ++ y_7))), (6, .call (.agg ((cValue y_10).map .p)) []), (7, .obj (oL true 38 3 cValue dValue [y_10])), (8, .obj (oL true 38 3 cValue dValue ((([] : List TValue) ++ y_7) ++ ([y_10]))))], .n 1, .r [(0, .obj (oL true 38 3 cValue dValue ([] : List TValue))), (2, .obj (oL true 38 3 cValue dValue (([] : List TValue) ++ ((([] : List TValue) ++ y_7) ++ ([y_10]))))), (4, .call (.sref 0 38 3 (y_14).length) [(oL true 38 3 cValue dValue y_14)]), (5, .obj (oL true 38 3 cValue dValue ((([] : List TValue) ++ ((([] : List TValue) ++ y_7) ++ ([y_10]))) ++ y_14)))], .n 3, .r [(5, .obj (oL true 41 2 cEntry dEntry [(TEntry.mk ((([] : List TValue) ++ y_7) ++ ([y_10])) 1)])), (6, .call (.sref 0 43 2 (y_17).length) [(oL true 43 2 cPublished dPublished y_17)])], .n 1, .r [(5, .obj (oL true 41 2 cEntry dEntry [(TEntry.mk ((([] : List TValue) ++ ((([] : List TValue) ++ y_7) ++ ([y_10]))) ++ y_14) 1)])), (6, .call (.sref 0 43 2 (y_19).length) [(oL true 43 2 cPublished dPublished y_19)])], .n 1, .r [(5, .obj (oL true 41 2 cEntry dEntry [(TEntry.mk ((([] : List TValue) ++ y_7) ++ ([y_10])) 2)])), (6, .call (.sref 0 43 2 (y_21).length) [(oL true 43 2 cPublished dPublished y_21)])], .n 2, .r [(2, .dec true)], .n 2, .r [(3, .dec true), (8, .dec true), (13, .dec false)]] (by kernel_rfl) (Obs.of (by kernel_rfl) (And.intro (nt g_1) (And.intro (nt g_4) (And.intro (le_build0 38 3 cValue dValue) (And.intro (erasureref26_CleanRow.spec e_8) (And.intro (And.intro g_9 (le_app 38 3 cValue dValue ([] : List TValue) y_7)) (And.intro (erasureref01_Int.spec e_11) (And.intro (le_one 38 3 cValue dValue y_10) (And.intro (And.intro g_12 (le_app 38 3 cValue dValue (([] : List TValue) ++ y_7) ([y_10]))) (And.intro (le_build0 38 3 cValue dValue) (And.intro (And.intro g_13 (le_app 38 3 cValue dValue ([] : List TValue) ((([] : List TValue) ++ y_7) ++ ([y_10])))) (And.intro (erasureref26_CleanRow.spec e_15) (And.intro (And.intro g_16 (le_app 38 3 cValue dValue (([] : List TValue) ++ ((([] : List TValue) ++ y_7) ++ ([y_10]))) y_14)) (And.intro (le_one 41 2 cEntry dEntry (TEntry.mk ((([] : List TValue) ++ y_7) ++ ([y_10])) 1)) (And.intro (release_Publish.spec e_18) (And.intro (le_one 41 2 cEntry dEntry (TEntry.mk ((([] : List TValue) ++ ((([] : List TValue) ++ y_7) ++ ([y_10]))) ++ y_14) 1)) (And.intro (release_Publish.spec e_20) (And.intro (le_one 41 2 cEntry dEntry (TEntry.mk ((([] : List TValue) ++ y_7) ++ ([y_10])) 2)) (And.intro (release_Publish.spec e_22) (And.intro g_23 (And.intro g_24 (And.intro g_25 (nt g_26)))))))))))))))))))))))
          · obtain rfl := Option.some.inj h
            exact RunC.out [.n 4, .r [(3, .dec false), (7, .dec false)], .n 3, .r [(0, .obj (oL true 38 3 cValue dValue ([] : List TValue))), (2, .call (.sref 0 38 3 (y_7).length) [(oL true 38 3 cValue dValue y_7)]), (3, .obj (oL true 38 3 cValue dValue (([] : List TValue) ++ y_7))), (6, .call (.agg ((cValue y_10).map .p)) []), (7, .obj (oL true 38 3 cValue dValue [y_10])), (8, .obj (oL true 38 3 cValue dValue ((([] : List TValue) ++ y_7) ++ ([y_10]))))], .n 1, .r [(0, .obj (oL true 38 3 cValue dValue ([] : List TValue))), (2, .obj (oL true 38 3 cValue dValue (([] : List TValue) ++ ((([] : List TValue) ++ y_7) ++ ([y_10]))))), (4, .call (.sref 0 38 3 (y_14).length) [(oL true 38 3 cValue dValue y_14)]), (5, .obj (oL true 38 3 cValue dValue ((([] : List TValue) ++ ((([] : List TValue) ++ y_7) ++ ([y_10]))) ++ y_14)))], .n 3, .r [(5, .obj (oL true 41 2 cEntry dEntry [(TEntry.mk ((([] : List TValue) ++ y_7) ++ ([y_10])) 1)])), (6, .call (.sref 0 43 2 (y_17).length) [(oL true 43 2 cPublished dPublished y_17)])], .n 1, .r [(5, .obj (oL true 41 2 cEntry dEntry [(TEntry.mk ((([] : List TValue) ++ ((([] : List TValue) ++ y_7) ++ ([y_10]))) ++ y_14) 1)])), (6, .call (.sref 0 43 2 (y_19).length) [(oL true 43 2 cPublished dPublished y_19)])], .n 1, .r [(5, .obj (oL true 41 2 cEntry dEntry [(TEntry.mk ((([] : List TValue) ++ y_7) ++ ([y_10])) 2)])), (6, .call (.sref 0 43 2 (y_21).length) [(oL true 43 2 cPublished dPublished y_21)])], .n 2, .r [(2, .dec true)], .n 2, .r [(3, .dec true), (8, .dec false)]] (by kernel_rfl) (Obs.of (by kernel_rfl) (And.intro (nt g_1) (And.intro (nt g_4) (And.intro (le_build0 38 3 cValue dValue) (And.intro (erasureref26_CleanRow.spec e_8) (And.intro (And.intro g_9 (le_app 38 3 cValue dValue ([] : List TValue) y_7)) (And.intro (erasureref01_Int.spec e_11) (And.intro (le_one 38 3 cValue dValue y_10) (And.intro (And.intro g_12 (le_app 38 3 cValue dValue (([] : List TValue) ++ y_7) ([y_10]))) (And.intro (le_build0 38 3 cValue dValue) (And.intro (And.intro g_13 (le_app 38 3 cValue dValue ([] : List TValue) ((([] : List TValue) ++ y_7) ++ ([y_10])))) (And.intro (erasureref26_CleanRow.spec e_15) (And.intro (And.intro g_16 (le_app 38 3 cValue dValue (([] : List TValue) ++ ((([] : List TValue) ++ y_7) ++ ([y_10]))) y_14)) (And.intro (le_one 41 2 cEntry dEntry (TEntry.mk ((([] : List TValue) ++ y_7) ++ ([y_10])) 1)) (And.intro (release_Publish.spec e_18) (And.intro (le_one 41 2 cEntry dEntry (TEntry.mk ((([] : List TValue) ++ ((([] : List TValue) ++ y_7) ++ ([y_10]))) ++ y_14) 1)) (And.intro (release_Publish.spec e_20) (And.intro (le_one 41 2 cEntry dEntry (TEntry.mk ((([] : List TValue) ++ y_7) ++ ([y_10])) 2)) (And.intro (release_Publish.spec e_22) (And.intro g_23 (And.intro g_24 (nt g_25))))))))))))))))))))))
        · obtain rfl := Option.some.inj h
          exact RunC.out [.n 4, .r [(3, .dec false), (7, .dec false)], .n 3, .r [(0, .obj (oL true 38 3 cValue dValue ([] : List TValue))), (2, .call (.sref 0 38 3 (y_7).length) [(oL true 38 3 cValue dValue y_7)]), (3, .obj (oL true 38 3 cValue dValue (([] : List TValue) ++ y_7))), (6, .call (.agg ((cValue y_10).map .p)) []), (7, .obj (oL true 38 3 cValue dValue [y_10])), (8, .obj (oL true 38 3 cValue dValue ((([] : List TValue) ++ y_7) ++ ([y_10]))))], .n 1, .r [(0, .obj (oL true 38 3 cValue dValue ([] : List TValue))), (2, .obj (oL true 38 3 cValue dValue (([] : List TValue) ++ ((([] : List TValue) ++ y_7) ++ ([y_10]))))), (4, .call (.sref 0 38 3 (y_14).length) [(oL true 38 3 cValue dValue y_14)]), (5, .obj (oL true 38 3 cValue dValue ((([] : List TValue) ++ ((([] : List TValue) ++ y_7) ++ ([y_10]))) ++ y_14)))], .n 3, .r [(5, .obj (oL true 41 2 cEntry dEntry [(TEntry.mk ((([] : List TValue) ++ y_7) ++ ([y_10])) 1)])), (6, .call (.sref 0 43 2 (y_17).length) [(oL true 43 2 cPublished dPublished y_17)])], .n 1, .r [(5, .obj (oL true 41 2 cEntry dEntry [(TEntry.mk ((([] : List TValue) ++ ((([] : List TValue) ++ y_7) ++ ([y_10]))) ++ y_14) 1)])), (6, .call (.sref 0 43 2 (y_19).length) [(oL true 43 2 cPublished dPublished y_19)])], .n 1, .r [(5, .obj (oL true 41 2 cEntry dEntry [(TEntry.mk ((([] : List TValue) ++ y_7) ++ ([y_10])) 2)])), (6, .call (.sref 0 43 2 (y_21).length) [(oL true 43 2 cPublished dPublished y_21)])], .n 2, .r [(2, .dec true)], .n 2, .r [(3, .dec false)]] (by kernel_rfl) (Obs.of (by kernel_rfl) (And.intro (nt g_1) (And.intro (nt g_4) (And.intro (le_build0 38 3 cValue dValue) (And.intro (erasureref26_CleanRow.spec e_8) (And.intro (And.intro g_9 (le_app 38 3 cValue dValue ([] : List TValue) y_7)) (And.intro (erasureref01_Int.spec e_11) (And.intro (le_one 38 3 cValue dValue y_10) (And.intro (And.intro g_12 (le_app 38 3 cValue dValue (([] : List TValue) ++ y_7) ([y_10]))) (And.intro (le_build0 38 3 cValue dValue) (And.intro (And.intro g_13 (le_app 38 3 cValue dValue ([] : List TValue) ((([] : List TValue) ++ y_7) ++ ([y_10])))) (And.intro (erasureref26_CleanRow.spec e_15) (And.intro (And.intro g_16 (le_app 38 3 cValue dValue (([] : List TValue) ++ ((([] : List TValue) ++ y_7) ++ ([y_10]))) y_14)) (And.intro (le_one 41 2 cEntry dEntry (TEntry.mk ((([] : List TValue) ++ y_7) ++ ([y_10])) 1)) (And.intro (release_Publish.spec e_18) (And.intro (le_one 41 2 cEntry dEntry (TEntry.mk ((([] : List TValue) ++ ((([] : List TValue) ++ y_7) ++ ([y_10]))) ++ y_14) 1)) (And.intro (release_Publish.spec e_20) (And.intro (le_one 41 2 cEntry dEntry (TEntry.mk ((([] : List TValue) ++ y_7) ++ ([y_10])) 2)) (And.intro (release_Publish.spec e_22) (And.intro g_23 (nt g_24)))))))))))))))))))))
      · rcases ite_or h with ⟨g_29, h⟩ | ⟨g_29, h⟩
        · obtain ⟨g_30, h⟩ := ite_some h
          obtain ⟨y_31, e_32, h⟩ := bind_or h
          obtain ⟨y_33, e_34, h⟩ := bind_or h
          rcases ite_or h with ⟨g_35, h⟩ | ⟨g_35, h⟩
          · obtain ⟨y_36, e_37, h⟩ := bind_or h
            rcases ite_or h with ⟨g_38, h⟩ | ⟨g_38, h⟩
            · rcases ite_or h with ⟨g_39, h⟩ | ⟨g_39, h⟩
              · obtain ⟨y_40, e_41, h⟩ := bind_or h
                obtain rfl := Option.some.inj h
                exact RunC.out [.n 4, .r [(3, .dec false), (7, .dec false)], .n 3, .r [(0, .obj (oL true 38 3 cValue dValue ([] : List TValue))), (2, .call (.sref 0 38 3 (y_7).length) [(oL true 38 3 cValue dValue y_7)]), (3, .obj (oL true 38 3 cValue dValue (([] : List TValue) ++ y_7))), (6, .call (.agg ((cValue y_10).map .p)) []), (7, .obj (oL true 38 3 cValue dValue [y_10])), (8, .obj (oL true 38 3 cValue dValue ((([] : List TValue) ++ y_7) ++ ([y_10]))))], .n 1, .r [(0, .obj (oL true 38 3 cValue dValue ([] : List TValue))), (2, .obj (oL true 38 3 cValue dValue (([] : List TValue) ++ ((([] : List TValue) ++ y_7) ++ ([y_10]))))), (4, .call (.sref 0 38 3 (y_14).length) [(oL true 38 3 cValue dValue y_14)]), (5, .obj (oL true 38 3 cValue dValue ((([] : List TValue) ++ ((([] : List TValue) ++ y_7) ++ ([y_10]))) ++ y_14)))], .n 3, .r [(5, .obj (oL true 41 2 cEntry dEntry [(TEntry.mk ((([] : List TValue) ++ y_7) ++ ([y_10])) 1)])), (6, .call (.sref 0 43 2 (y_17).length) [(oL true 43 2 cPublished dPublished y_17)])], .n 1, .r [(5, .obj (oL true 41 2 cEntry dEntry [(TEntry.mk ((([] : List TValue) ++ ((([] : List TValue) ++ y_7) ++ ([y_10]))) ++ y_14) 1)])), (6, .call (.sref 0 43 2 (y_19).length) [(oL true 43 2 cPublished dPublished y_19)])], .n 1, .r [(5, .obj (oL true 41 2 cEntry dEntry [(TEntry.mk ((([] : List TValue) ++ y_7) ++ ([y_10])) 2)])), (6, .call (.sref 0 43 2 (y_21).length) [(oL true 43 2 cPublished dPublished y_21)])], .n 2, .r [(2, .dec false)], .n 3, .r [(3, .dec true), (9, .call (.sref 0 38 3 (y_31).length) [(oL true 38 3 cValue dValue y_31)]), (10, .call (.p (.bool y_33)) []), (12, .dec true), (15, .call (.p (.bool y_36)) []), (17, .dec true), (22, .dec true), (23, .call (.p (.bool y_40)) [])]] (by kernel_rfl) (Obs.of (by kernel_rfl) (And.intro (nt g_1) (And.intro (nt g_4) (And.intro (le_build0 38 3 cValue dValue) (And.intro (erasureref26_CleanRow.spec e_8) (And.intro (And.intro g_9 (le_app 38 3 cValue dValue ([] : List TValue) y_7)) (And.intro (erasureref01_Int.spec e_11) (And.intro (le_one 38 3 cValue dValue y_10) (And.intro (And.intro g_12 (le_app 38 3 cValue dValue (([] : List TValue) ++ y_7) ([y_10]))) (And.intro (le_build0 38 3 cValue dValue) (And.intro (And.intro g_13 (le_app 38 3 cValue dValue ([] : List TValue) ((([] : List TValue) ++ y_7) ++ ([y_10])))) (And.intro (erasureref26_CleanRow.spec e_15) (And.intro (And.intro g_16 (le_app 38 3 cValue dValue (([] : List TValue) ++ ((([] : List TValue) ++ y_7) ++ ([y_10]))) y_14)) (And.intro (le_one 41 2 cEntry dEntry (TEntry.mk ((([] : List TValue) ++ y_7) ++ ([y_10])) 1)) (And.intro (release_Publish.spec e_18) (And.intro (le_one 41 2 cEntry dEntry (TEntry.mk ((([] : List TValue) ++ ((([] : List TValue) ++ y_7) ++ ([y_10]))) ++ y_14) 1)) (And.intro (release_Publish.spec e_20) (And.intro (le_one 41 2 cEntry dEntry (TEntry.mk ((([] : List TValue) ++ y_7) ++ ([y_10])) 2)) (And.intro (release_Publish.spec e_22) (And.intro (nt g_23) (And.intro g_29 (And.intro g_30 (And.intro (erasureref26_CleanRow.spec e_32) (And.intro (erasureref26_SameRow.spec e_34) (And.intro g_35 (And.intro (erasureref35_Same.spec e_37) (And.intro g_38 (And.intro g_39 (erasurelaw35_awake.spec e_41)))))))))))))))))))))))))))))
              · obtain rfl := Option.some.inj h
                exact RunC.out [.n 4, .r [(3, .dec false), (7, .dec false)], .n 3, .r [(0, .obj (oL true 38 3 cValue dValue ([] : List TValue))), (2, .call (.sref 0 38 3 (y_7).length) [(oL true 38 3 cValue dValue y_7)]), (3, .obj (oL true 38 3 cValue dValue (([] : List TValue) ++ y_7))), (6, .call (.agg ((cValue y_10).map .p)) []), (7, .obj (oL true 38 3 cValue dValue [y_10])), (8, .obj (oL true 38 3 cValue dValue ((([] : List TValue) ++ y_7) ++ ([y_10]))))], .n 1, .r [(0, .obj (oL true 38 3 cValue dValue ([] : List TValue))), (2, .obj (oL true 38 3 cValue dValue (([] : List TValue) ++ ((([] : List TValue) ++ y_7) ++ ([y_10]))))), (4, .call (.sref 0 38 3 (y_14).length) [(oL true 38 3 cValue dValue y_14)]), (5, .obj (oL true 38 3 cValue dValue ((([] : List TValue) ++ ((([] : List TValue) ++ y_7) ++ ([y_10]))) ++ y_14)))], .n 3, .r [(5, .obj (oL true 41 2 cEntry dEntry [(TEntry.mk ((([] : List TValue) ++ y_7) ++ ([y_10])) 1)])), (6, .call (.sref 0 43 2 (y_17).length) [(oL true 43 2 cPublished dPublished y_17)])], .n 1, .r [(5, .obj (oL true 41 2 cEntry dEntry [(TEntry.mk ((([] : List TValue) ++ ((([] : List TValue) ++ y_7) ++ ([y_10]))) ++ y_14) 1)])), (6, .call (.sref 0 43 2 (y_19).length) [(oL true 43 2 cPublished dPublished y_19)])], .n 1, .r [(5, .obj (oL true 41 2 cEntry dEntry [(TEntry.mk ((([] : List TValue) ++ y_7) ++ ([y_10])) 2)])), (6, .call (.sref 0 43 2 (y_21).length) [(oL true 43 2 cPublished dPublished y_21)])], .n 2, .r [(2, .dec false)], .n 3, .r [(3, .dec true), (9, .call (.sref 0 38 3 (y_31).length) [(oL true 38 3 cValue dValue y_31)]), (10, .call (.p (.bool y_33)) []), (12, .dec true), (15, .call (.p (.bool y_36)) []), (17, .dec true), (22, .dec false)]] (by kernel_rfl) (Obs.of (by kernel_rfl) (And.intro (nt g_1) (And.intro (nt g_4) (And.intro (le_build0 38 3 cValue dValue) (And.intro (erasureref26_CleanRow.spec e_8) (And.intro (And.intro g_9 (le_app 38 3 cValue dValue ([] : List TValue) y_7)) (And.intro (erasureref01_Int.spec e_11) (And.intro (le_one 38 3 cValue dValue y_10) (And.intro (And.intro g_12 (le_app 38 3 cValue dValue (([] : List TValue) ++ y_7) ([y_10]))) (And.intro (le_build0 38 3 cValue dValue) (And.intro (And.intro g_13 (le_app 38 3 cValue dValue ([] : List TValue) ((([] : List TValue) ++ y_7) ++ ([y_10])))) (And.intro (erasureref26_CleanRow.spec e_15) (And.intro (And.intro g_16 (le_app 38 3 cValue dValue (([] : List TValue) ++ ((([] : List TValue) ++ y_7) ++ ([y_10]))) y_14)) (And.intro (le_one 41 2 cEntry dEntry (TEntry.mk ((([] : List TValue) ++ y_7) ++ ([y_10])) 1)) (And.intro (release_Publish.spec e_18) (And.intro (le_one 41 2 cEntry dEntry (TEntry.mk ((([] : List TValue) ++ ((([] : List TValue) ++ y_7) ++ ([y_10]))) ++ y_14) 1)) (And.intro (release_Publish.spec e_20) (And.intro (le_one 41 2 cEntry dEntry (TEntry.mk ((([] : List TValue) ++ y_7) ++ ([y_10])) 2)) (And.intro (release_Publish.spec e_22) (And.intro (nt g_23) (And.intro g_29 (And.intro g_30 (And.intro (erasureref26_CleanRow.spec e_32) (And.intro (erasureref26_SameRow.spec e_34) (And.intro g_35 (And.intro (erasureref35_Same.spec e_37) (And.intro g_38 (nt g_39))))))))))))))))))))))))))))
            · obtain rfl := Option.some.inj h
              exact RunC.out [.n 4, .r [(3, .dec false), (7, .dec false)], .n 3, .r [(0, .obj (oL true 38 3 cValue dValue ([] : List TValue))), (2, .call (.sref 0 38 3 (y_7).length) [(oL true 38 3 cValue dValue y_7)]), (3, .obj (oL true 38 3 cValue dValue (([] : List TValue) ++ y_7))), (6, .call (.agg ((cValue y_10).map .p)) []), (7, .obj (oL true 38 3 cValue dValue [y_10])), (8, .obj (oL true 38 3 cValue dValue ((([] : List TValue) ++ y_7) ++ ([y_10]))))], .n 1, .r [(0, .obj (oL true 38 3 cValue dValue ([] : List TValue))), (2, .obj (oL true 38 3 cValue dValue (([] : List TValue) ++ ((([] : List TValue) ++ y_7) ++ ([y_10]))))), (4, .call (.sref 0 38 3 (y_14).length) [(oL true 38 3 cValue dValue y_14)]), (5, .obj (oL true 38 3 cValue dValue ((([] : List TValue) ++ ((([] : List TValue) ++ y_7) ++ ([y_10]))) ++ y_14)))], .n 3, .r [(5, .obj (oL true 41 2 cEntry dEntry [(TEntry.mk ((([] : List TValue) ++ y_7) ++ ([y_10])) 1)])), (6, .call (.sref 0 43 2 (y_17).length) [(oL true 43 2 cPublished dPublished y_17)])], .n 1, .r [(5, .obj (oL true 41 2 cEntry dEntry [(TEntry.mk ((([] : List TValue) ++ ((([] : List TValue) ++ y_7) ++ ([y_10]))) ++ y_14) 1)])), (6, .call (.sref 0 43 2 (y_19).length) [(oL true 43 2 cPublished dPublished y_19)])], .n 1, .r [(5, .obj (oL true 41 2 cEntry dEntry [(TEntry.mk ((([] : List TValue) ++ y_7) ++ ([y_10])) 2)])), (6, .call (.sref 0 43 2 (y_21).length) [(oL true 43 2 cPublished dPublished y_21)])], .n 2, .r [(2, .dec false)], .n 3, .r [(3, .dec true), (9, .call (.sref 0 38 3 (y_31).length) [(oL true 38 3 cValue dValue y_31)]), (10, .call (.p (.bool y_33)) []), (12, .dec true), (15, .call (.p (.bool y_36)) []), (17, .dec false)]] (by kernel_rfl) (Obs.of (by kernel_rfl) (And.intro (nt g_1) (And.intro (nt g_4) (And.intro (le_build0 38 3 cValue dValue) (And.intro (erasureref26_CleanRow.spec e_8) (And.intro (And.intro g_9 (le_app 38 3 cValue dValue ([] : List TValue) y_7)) (And.intro (erasureref01_Int.spec e_11) (And.intro (le_one 38 3 cValue dValue y_10) (And.intro (And.intro g_12 (le_app 38 3 cValue dValue (([] : List TValue) ++ y_7) ([y_10]))) (And.intro (le_build0 38 3 cValue dValue) (And.intro (And.intro g_13 (le_app 38 3 cValue dValue ([] : List TValue) ((([] : List TValue) ++ y_7) ++ ([y_10])))) (And.intro (erasureref26_CleanRow.spec e_15) (And.intro (And.intro g_16 (le_app 38 3 cValue dValue (([] : List TValue) ++ ((([] : List TValue) ++ y_7) ++ ([y_10]))) y_14)) (And.intro (le_one 41 2 cEntry dEntry (TEntry.mk ((([] : List TValue) ++ y_7) ++ ([y_10])) 1)) (And.intro (release_Publish.spec e_18) (And.intro (le_one 41 2 cEntry dEntry (TEntry.mk ((([] : List TValue) ++ ((([] : List TValue) ++ y_7) ++ ([y_10]))) ++ y_14) 1)) (And.intro (release_Publish.spec e_20) (And.intro (le_one 41 2 cEntry dEntry (TEntry.mk ((([] : List TValue) ++ y_7) ++ ([y_10])) 2)) (And.intro (release_Publish.spec e_22) (And.intro (nt g_23) (And.intro g_29 (And.intro g_30 (And.intro (erasureref26_CleanRow.spec e_32) (And.intro (erasureref26_SameRow.spec e_34) (And.intro g_35 (And.intro (erasureref35_Same.spec e_37) (nt g_38)))))))))))))))))))))))))))
          · obtain rfl := Option.some.inj h
            exact RunC.out [.n 4, .r [(3, .dec false), (7, .dec false)], .n 3, .r [(0, .obj (oL true 38 3 cValue dValue ([] : List TValue))), (2, .call (.sref 0 38 3 (y_7).length) [(oL true 38 3 cValue dValue y_7)]), (3, .obj (oL true 38 3 cValue dValue (([] : List TValue) ++ y_7))), (6, .call (.agg ((cValue y_10).map .p)) []), (7, .obj (oL true 38 3 cValue dValue [y_10])), (8, .obj (oL true 38 3 cValue dValue ((([] : List TValue) ++ y_7) ++ ([y_10]))))], .n 1, .r [(0, .obj (oL true 38 3 cValue dValue ([] : List TValue))), (2, .obj (oL true 38 3 cValue dValue (([] : List TValue) ++ ((([] : List TValue) ++ y_7) ++ ([y_10]))))), (4, .call (.sref 0 38 3 (y_14).length) [(oL true 38 3 cValue dValue y_14)]), (5, .obj (oL true 38 3 cValue dValue ((([] : List TValue) ++ ((([] : List TValue) ++ y_7) ++ ([y_10]))) ++ y_14)))], .n 3, .r [(5, .obj (oL true 41 2 cEntry dEntry [(TEntry.mk ((([] : List TValue) ++ y_7) ++ ([y_10])) 1)])), (6, .call (.sref 0 43 2 (y_17).length) [(oL true 43 2 cPublished dPublished y_17)])], .n 1, .r [(5, .obj (oL true 41 2 cEntry dEntry [(TEntry.mk ((([] : List TValue) ++ ((([] : List TValue) ++ y_7) ++ ([y_10]))) ++ y_14) 1)])), (6, .call (.sref 0 43 2 (y_19).length) [(oL true 43 2 cPublished dPublished y_19)])], .n 1, .r [(5, .obj (oL true 41 2 cEntry dEntry [(TEntry.mk ((([] : List TValue) ++ y_7) ++ ([y_10])) 2)])), (6, .call (.sref 0 43 2 (y_21).length) [(oL true 43 2 cPublished dPublished y_21)])], .n 2, .r [(2, .dec false)], .n 3, .r [(3, .dec true), (9, .call (.sref 0 38 3 (y_31).length) [(oL true 38 3 cValue dValue y_31)]), (10, .call (.p (.bool y_33)) []), (12, .dec false)]] (by kernel_rfl) (Obs.of (by kernel_rfl) (And.intro (nt g_1) (And.intro (nt g_4) (And.intro (le_build0 38 3 cValue dValue) (And.intro (erasureref26_CleanRow.spec e_8) (And.intro (And.intro g_9 (le_app 38 3 cValue dValue ([] : List TValue) y_7)) (And.intro (erasureref01_Int.spec e_11) (And.intro (le_one 38 3 cValue dValue y_10) (And.intro (And.intro g_12 (le_app 38 3 cValue dValue (([] : List TValue) ++ y_7) ([y_10]))) (And.intro (le_build0 38 3 cValue dValue) (And.intro (And.intro g_13 (le_app 38 3 cValue dValue ([] : List TValue) ((([] : List TValue) ++ y_7) ++ ([y_10])))) (And.intro (erasureref26_CleanRow.spec e_15) (And.intro (And.intro g_16 (le_app 38 3 cValue dValue (([] : List TValue) ++ ((([] : List TValue) ++ y_7) ++ ([y_10]))) y_14)) (And.intro (le_one 41 2 cEntry dEntry (TEntry.mk ((([] : List TValue) ++ y_7) ++ ([y_10])) 1)) (And.intro (release_Publish.spec e_18) (And.intro (le_one 41 2 cEntry dEntry (TEntry.mk ((([] : List TValue) ++ ((([] : List TValue) ++ y_7) ++ ([y_10]))) ++ y_14) 1)) (And.intro (release_Publish.spec e_20) (And.intro (le_one 41 2 cEntry dEntry (TEntry.mk ((([] : List TValue) ++ y_7) ++ ([y_10])) 2)) (And.intro (release_Publish.spec e_22) (And.intro (nt g_23) (And.intro g_29 (And.intro g_30 (And.intro (erasureref26_CleanRow.spec e_32) (And.intro (erasureref26_SameRow.spec e_34) (nt g_35)))))))))))))))))))))))))
        · obtain rfl := Option.some.inj h
          exact RunC.out [.n 4, .r [(3, .dec false), (7, .dec false)], .n 3, .r [(0, .obj (oL true 38 3 cValue dValue ([] : List TValue))), (2, .call (.sref 0 38 3 (y_7).length) [(oL true 38 3 cValue dValue y_7)]), (3, .obj (oL true 38 3 cValue dValue (([] : List TValue) ++ y_7))), (6, .call (.agg ((cValue y_10).map .p)) []), (7, .obj (oL true 38 3 cValue dValue [y_10])), (8, .obj (oL true 38 3 cValue dValue ((([] : List TValue) ++ y_7) ++ ([y_10]))))], .n 1, .r [(0, .obj (oL true 38 3 cValue dValue ([] : List TValue))), (2, .obj (oL true 38 3 cValue dValue (([] : List TValue) ++ ((([] : List TValue) ++ y_7) ++ ([y_10]))))), (4, .call (.sref 0 38 3 (y_14).length) [(oL true 38 3 cValue dValue y_14)]), (5, .obj (oL true 38 3 cValue dValue ((([] : List TValue) ++ ((([] : List TValue) ++ y_7) ++ ([y_10]))) ++ y_14)))], .n 3, .r [(5, .obj (oL true 41 2 cEntry dEntry [(TEntry.mk ((([] : List TValue) ++ y_7) ++ ([y_10])) 1)])), (6, .call (.sref 0 43 2 (y_17).length) [(oL true 43 2 cPublished dPublished y_17)])], .n 1, .r [(5, .obj (oL true 41 2 cEntry dEntry [(TEntry.mk ((([] : List TValue) ++ ((([] : List TValue) ++ y_7) ++ ([y_10]))) ++ y_14) 1)])), (6, .call (.sref 0 43 2 (y_19).length) [(oL true 43 2 cPublished dPublished y_19)])], .n 1, .r [(5, .obj (oL true 41 2 cEntry dEntry [(TEntry.mk ((([] : List TValue) ++ y_7) ++ ([y_10])) 2)])), (6, .call (.sref 0 43 2 (y_21).length) [(oL true 43 2 cPublished dPublished y_21)])], .n 2, .r [(2, .dec false)], .n 3, .r [(3, .dec false)]] (by kernel_rfl) (Obs.of (by kernel_rfl) (And.intro (nt g_1) (And.intro (nt g_4) (And.intro (le_build0 38 3 cValue dValue) (And.intro (erasureref26_CleanRow.spec e_8) (And.intro (And.intro g_9 (le_app 38 3 cValue dValue ([] : List TValue) y_7)) (And.intro (erasureref01_Int.spec e_11) (And.intro (le_one 38 3 cValue dValue y_10) (And.intro (And.intro g_12 (le_app 38 3 cValue dValue (([] : List TValue) ++ y_7) ([y_10]))) (And.intro (le_build0 38 3 cValue dValue) (And.intro (And.intro g_13 (le_app 38 3 cValue dValue ([] : List TValue) ((([] : List TValue) ++ y_7) ++ ([y_10])))) (And.intro (erasureref26_CleanRow.spec e_15) (And.intro (And.intro g_16 (le_app 38 3 cValue dValue (([] : List TValue) ++ ((([] : List TValue) ++ y_7) ++ ([y_10]))) y_14)) (And.intro (le_one 41 2 cEntry dEntry (TEntry.mk ((([] : List TValue) ++ y_7) ++ ([y_10])) 1)) (And.intro (release_Publish.spec e_18) (And.intro (le_one 41 2 cEntry dEntry (TEntry.mk ((([] : List TValue) ++ ((([] : List TValue) ++ y_7) ++ ([y_10]))) ++ y_14) 1)) (And.intro (release_Publish.spec e_20) (And.intro (le_one 41 2 cEntry dEntry (TEntry.mk ((([] : List TValue) ++ y_7) ++ ([y_10])) 2)) (And.intro (release_Publish.spec e_22) (And.intro (nt g_23) (nt g_29)))))))))))))))))))))
theorem erasurelaw35_ReleaseKeys.mono   : ∀ (k k' : Nat) (keys0 : (List TValue)) (n1 : Int) (more2 : (List TValue)) (r : Bool), k ≤ k' → erasurelaw35_ReleaseKeys k keys0 n1 more2 = some r → erasurelaw35_ReleaseKeys k' keys0 n1 more2 = some r := by
  intro k k' keys0 n1 more2 r hk h
  unfold erasurelaw35_ReleaseKeys at h ⊢
  rcases ite_or h with ⟨g_1, h⟩ | ⟨g_1, h⟩
  · refine itp g_1 ?_
    obtain ⟨y_2, e_3, h⟩ := bind_or h
    refine bnd (erasurelaw35_awake.mono _ _  _ hk e_3) ?_
    exact h
  · refine itn g_1 ?_
    rcases ite_or h with ⟨g_4, h⟩ | ⟨g_4, h⟩
    · refine itp g_4 ?_
      obtain ⟨y_5, e_6, h⟩ := bind_or h
      refine bnd (erasurelaw35_awake.mono _ _  _ hk e_6) ?_
      exact h
    · refine itn g_4 ?_
      obtain ⟨y_7, e_8, h⟩ := bind_or h
      refine bnd (erasureref26_CleanRow.mono _ _ _ _ hk e_8) ?_
      obtain ⟨g_9, h⟩ := ite_some h
      refine itp g_9 ?_
      obtain ⟨y_10, e_11, h⟩ := bind_or h
      refine bnd (erasureref01_Int.mono _ _ _ _ hk e_11) ?_
      obtain ⟨g_12, h⟩ := ite_some h
      refine itp g_12 ?_
      obtain ⟨g_13, h⟩ := ite_some h
      refine itp g_13 ?_
      obtain ⟨y_14, e_15, h⟩ := bind_or h
      refine bnd (erasureref26_CleanRow.mono _ _ _ _ hk e_15) ?_
      obtain ⟨g_16, h⟩ := ite_some h
      refine itp g_16 ?_
      obtain ⟨y_17, e_18, h⟩ := bind_or h
      refine bnd (release_Publish.mono _ _ _ _ _ _ hk e_18) ?_
      obtain ⟨y_19, e_20, h⟩ := bind_or h
      refine bnd (release_Publish.mono _ _ _ _ _ _ hk e_20) ?_
      obtain ⟨y_21, e_22, h⟩ := bind_or h
      refine bnd (release_Publish.mono _ _ _ _ _ _ hk e_22) ?_
      rcases ite_or h with ⟨g_23, h⟩ | ⟨g_23, h⟩
      · refine itp g_23 ?_
        rcases ite_or h with ⟨g_24, h⟩ | ⟨g_24, h⟩
        · refine itp g_24 ?_
          rcases ite_or h with ⟨g_25, h⟩ | ⟨g_25, h⟩
          · refine itp g_25 ?_
            rcases ite_or h with ⟨g_26, h⟩ | ⟨g_26, h⟩
            · refine itp g_26 ?_
              obtain ⟨y_27, e_28, h⟩ := bind_or h
              refine bnd (erasurelaw35_awake.mono _ _  _ hk e_28) ?_
              exact h
            · refine itn g_26 ?_
              exact h
          · refine itn g_25 ?_
            exact h
        · refine itn g_24 ?_
          exact h
      · refine itn g_23 ?_
        rcases ite_or h with ⟨g_29, h⟩ | ⟨g_29, h⟩
        · refine itp g_29 ?_
          obtain ⟨g_30, h⟩ := ite_some h
          refine itp g_30 ?_
          obtain ⟨y_31, e_32, h⟩ := bind_or h
          refine bnd (erasureref26_CleanRow.mono _ _ _ _ hk e_32) ?_
          obtain ⟨y_33, e_34, h⟩ := bind_or h
          refine bnd (erasureref26_SameRow.mono _ _ _ _ _ hk e_34) ?_
          rcases ite_or h with ⟨g_35, h⟩ | ⟨g_35, h⟩
          · refine itp g_35 ?_
            obtain ⟨y_36, e_37, h⟩ := bind_or h
            refine bnd (erasureref35_Same.mono _ _ _ _ _ hk e_37) ?_
            rcases ite_or h with ⟨g_38, h⟩ | ⟨g_38, h⟩
            · refine itp g_38 ?_
              rcases ite_or h with ⟨g_39, h⟩ | ⟨g_39, h⟩
              · refine itp g_39 ?_
                obtain ⟨y_40, e_41, h⟩ := bind_or h
                refine bnd (erasurelaw35_awake.mono _ _  _ hk e_41) ?_
                exact h
              · refine itn g_39 ?_
                exact h
            · refine itn g_38 ?_
              exact h
          · refine itn g_35 ?_
            exact h
        · refine itn g_29 ?_
          exact h
theorem erasurelaw35_ReleaseKeys.spec {k : Nat} {keys0 : (List TValue)} {n1 : Int} {more2 : (List TValue)} {r : Bool} (h : erasurelaw35_ReleaseKeys k keys0 n1 more2 = some r) : Spec Try.prog 6 [.p (eL 3 cValue dValue keys0), .p (.int .i64 n1), .p (eL 3 cValue dValue more2)] (.p (.bool r)) [] :=
  spec_of mix Try.func6 (body := bodyOf Try.f6) (by kernel_rfl) (by kernel_rfl) (erasurelaw35_ReleaseKeys.run h)
end Go.Proofs.YtjhnpaenhdbhpaaV
set_option linter.unusedVariables false
set_option linter.unusedSimpArgs false
set_option maxRecDepth 100000
namespace Go.Proofs.YtjhnpaenhdbhpaaV
open Go Go.RowKit
noncomputable def erasurelaw35_limit  (k : Nat) (n0 : Int) : Option TRelease := some (TRelease.mk (⟨#[]⟩ : ByteArray) (⟨#[]⟩ : ByteArray) (IntKind.i64.wrap (1 + (Go.bits .and .i64 n0 15))))
noncomputable def erasurelaw35_limit.t : List Item := [.code (bodyOf Try.f17)]
noncomputable def erasurelaw35_limit.s (n0 : Int) : St := ⟨frOf Try.f17.ntmps 0 [(0, .p (.int .i64 n0))], []⟩
theorem erasurelaw35_limit.run   {k : Nat} {n0 : Int} {r : TRelease} (h : erasurelaw35_limit k n0 = some r) : RunC Try.prog Try.f17 erasurelaw35_limit.t (erasurelaw35_limit.s n0) (.agg ((cRelease r).map .p)) [] := by
  unfold erasurelaw35_limit at h
  obtain rfl := Option.some.inj h
  exact RunC.out [.n 4] (by kernel_rfl) (Obs.tt (by kernel_rfl))
theorem erasurelaw35_limit.mono   : ∀ (k k' : Nat) (n0 : Int) (r : TRelease), k ≤ k' → erasurelaw35_limit k n0 = some r → erasurelaw35_limit k' n0 = some r := by
  intro k k' n0 r hk h
  unfold erasurelaw35_limit at h ⊢
  exact h
theorem erasurelaw35_limit.spec {k : Nat} {n0 : Int} {r : TRelease} (h : erasurelaw35_limit k n0 = some r) : Spec Try.prog 17 [.p (.int .i64 n0)] (.agg ((cRelease r).map .p)) [] :=
  spec_of mix Try.func17 (body := bodyOf Try.f17) (by kernel_rfl) (by kernel_rfl) (erasurelaw35_limit.run h)
end Go.Proofs.YtjhnpaenhdbhpaaV
set_option linter.unusedVariables false
set_option linter.unusedSimpArgs false
set_option maxRecDepth 100000
namespace Go.Proofs.YtjhnpaenhdbhpaaV
open Go Go.RowKit
noncomputable def erasureref01_Compare  (k : Nat) (a0 : TValue) (b1 : TValue) : Option Int := (erasureref01_Clean k a0).bind fun y_1 => ((erasureref01_Clean k b1).bind fun y_3 => (if ((y_1.f0 == y_3.f0) && ((y_1.f1 == y_3.f1) && ((y_1.f2.data.toList == y_3.f2.data.toList) && true))) = true then (some 0) else (if (decide (y_1.f0 < y_3.f0)) = true then (some (-1)) else (if (y_1.f0 == y_3.f0) = true then (if (decide (y_1.f1 < y_3.f1)) = true then (some (-1)) else (if (Op.bytesLess y_1.f2.data.toList y_3.f2.data.toList) = true then (some (-1)) else (some 1))) else (some 1)))))
noncomputable def erasureref01_Compare.t : List Item := [.code (bodyOf Try.f50)]
noncomputable def erasureref01_Compare.s (a0 : TValue) (b1 : TValue) : St := ⟨frOf Try.f50.ntmps 0 [(0, .agg ((cValue a0).map .p)), (1, .agg ((cValue b1).map .p))], []⟩
theorem erasureref01_Compare.run   {k : Nat} {a0 : TValue} {b1 : TValue} {r : Int} (h : erasureref01_Compare k a0 b1 = some r) : RunC Try.prog Try.f50 erasureref01_Compare.t (erasureref01_Compare.s a0 b1) (.p (.int .i64 r)) [] := by
  unfold erasureref01_Compare at h
  obtain ⟨y_1, e_2, h⟩ := bind_or h
  obtain ⟨y_3, e_4, h⟩ := bind_or h
  rcases ite_or h with ⟨g_5, h⟩ | ⟨g_5, h⟩
  · obtain rfl := Option.some.inj h
    exact RunC.out [.n 3, .r [(1, .call (.agg ((cValue y_1).map .p)) []), (3, .call (.agg ((cValue y_3).map .p)) [])], .n 2, .r [(2, .dec true)], .n 3] (by kernel_rfl) (Obs.of (by kernel_rfl) (And.intro (erasureref01_Clean.spec e_2) (And.intro (erasureref01_Clean.spec e_4) g_5)))
  · rcases ite_or h with ⟨g_6, h⟩ | ⟨g_6, h⟩
    · obtain rfl := Option.some.inj h
      exact RunC.out [.n 3, .r [(1, .call (.agg ((cValue y_1).map .p)) []), (3, .call (.agg ((cValue y_3).map .p)) [])], .n 2, .r [(2, .dec false)], .n 4, .r [(5, .dec true)], .n 3] (by kernel_rfl) (Obs.of (by kernel_rfl) (And.intro (erasureref01_Clean.spec e_2) (And.intro (erasureref01_Clean.spec e_4) (And.intro (nt g_5) g_6))))
    · rcases ite_or h with ⟨g_7, h⟩ | ⟨g_7, h⟩
      · rcases ite_or h with ⟨g_8, h⟩ | ⟨g_8, h⟩
        · obtain rfl := Option.some.inj h
          exact RunC.out [.n 3, .r [(1, .call (.agg ((cValue y_1).map .p)) []), (3, .call (.agg ((cValue y_3).map .p)) [])], .n 2, .r [(2, .dec false)], .n 4, .r [(5, .dec false), (11, .dec true), (17, .dec true)], .n 3] (by kernel_rfl) (Obs.of (by kernel_rfl) (And.intro (erasureref01_Clean.spec e_2) (And.intro (erasureref01_Clean.spec e_4) (And.intro (nt g_5) (And.intro (nt g_6) (And.intro g_7 g_8))))))
        · rcases ite_or h with ⟨g_9, h⟩ | ⟨g_9, h⟩
          · obtain rfl := Option.some.inj h
            exact RunC.out [.n 3, .r [(1, .call (.agg ((cValue y_1).map .p)) []), (3, .call (.agg ((cValue y_3).map .p)) [])], .n 2, .r [(2, .dec false)], .n 4, .r [(5, .dec false), (11, .dec true), (17, .dec false), (25, .dec true)], .n 3] (by kernel_rfl) (Obs.of (by kernel_rfl) (And.intro (erasureref01_Clean.spec e_2) (And.intro (erasureref01_Clean.spec e_4) (And.intro (nt g_5) (And.intro (nt g_6) (And.intro g_7 (And.intro (nt g_8) g_9)))))))
          · obtain rfl := Option.some.inj h
            exact RunC.out [.n 3, .r [(1, .call (.agg ((cValue y_1).map .p)) []), (3, .call (.agg ((cValue y_3).map .p)) [])], .n 2, .r [(2, .dec false)], .n 4, .r [(5, .dec false), (11, .dec true), (17, .dec false), (25, .dec false)], .n 4] (by kernel_rfl) (Obs.of (by kernel_rfl) (And.intro (erasureref01_Clean.spec e_2) (And.intro (erasureref01_Clean.spec e_4) (And.intro (nt g_5) (And.intro (nt g_6) (And.intro g_7 (And.intro (nt g_8) (nt g_9))))))))
      · obtain rfl := Option.some.inj h
        exact RunC.out [.n 3, .r [(1, .call (.agg ((cValue y_1).map .p)) []), (3, .call (.agg ((cValue y_3).map .p)) [])], .n 2, .r [(2, .dec false)], .n 4, .r [(5, .dec false), (11, .dec false)], .n 4] (by kernel_rfl) (Obs.of (by kernel_rfl) (And.intro (erasureref01_Clean.spec e_2) (And.intro (erasureref01_Clean.spec e_4) (And.intro (nt g_5) (And.intro (nt g_6) (nt g_7))))))
theorem erasureref01_Compare.mono   : ∀ (k k' : Nat) (a0 : TValue) (b1 : TValue) (r : Int), k ≤ k' → erasureref01_Compare k a0 b1 = some r → erasureref01_Compare k' a0 b1 = some r := by
  intro k k' a0 b1 r hk h
  unfold erasureref01_Compare at h ⊢
  obtain ⟨y_1, e_2, h⟩ := bind_or h
  refine bnd (erasureref01_Clean.mono _ _ _ _ hk e_2) ?_
  obtain ⟨y_3, e_4, h⟩ := bind_or h
  refine bnd (erasureref01_Clean.mono _ _ _ _ hk e_4) ?_
  rcases ite_or h with ⟨g_5, h⟩ | ⟨g_5, h⟩
  · refine itp g_5 ?_
    exact h
  · refine itn g_5 ?_
    rcases ite_or h with ⟨g_6, h⟩ | ⟨g_6, h⟩
    · refine itp g_6 ?_
      exact h
    · refine itn g_6 ?_
      rcases ite_or h with ⟨g_7, h⟩ | ⟨g_7, h⟩
      · refine itp g_7 ?_
        rcases ite_or h with ⟨g_8, h⟩ | ⟨g_8, h⟩
        · refine itp g_8 ?_
          exact h
        · refine itn g_8 ?_
          rcases ite_or h with ⟨g_9, h⟩ | ⟨g_9, h⟩
          · refine itp g_9 ?_
            exact h
          · refine itn g_9 ?_
            exact h
      · refine itn g_7 ?_
        exact h
theorem erasureref01_Compare.spec {k : Nat} {a0 : TValue} {b1 : TValue} {r : Int} (h : erasureref01_Compare k a0 b1 = some r) : Spec Try.prog 50 [.agg ((cValue a0).map .p), .agg ((cValue b1).map .p)] (.p (.int .i64 r)) [] :=
  spec_of mix Try.func50 (body := bodyOf Try.f50) (by kernel_rfl) (by kernel_rfl) (erasureref01_Compare.run h)
end Go.Proofs.YtjhnpaenhdbhpaaV
set_option linter.unusedVariables false
set_option linter.unusedSimpArgs false
namespace Go.Proofs.YtjhnpaenhdbhpaaV
open Go Go.RowKit
def Ev {α : Type} (g : Nat → Option α) (r : α) : Prop := ∃ K, ∀ k, K ≤ k → g k = some r
theorem Ev.now {α : Type} (r : α) : Ev (fun _ => some r) r := ⟨0, fun _ _ => rfl⟩
theorem Ev.any {α : Type} {g : Nat → Option α} {r : α} (h : ∀ k, g k = some r) : Ev g r := ⟨0, fun k _ => h k⟩
theorem Ev.done {α : Type} {a r : α} (h : a = r) : Ev (fun _ => some a) r := by subst h; exact Ev.now _
theorem Ev.bind {α β : Type} {f : Nat → Option α} {g : Nat → α → Option β} {a : α} {r : β} (h : Ev f a) (h' : Ev (fun k => g k a) r) : Ev (fun k => (f k).bind (g k)) r := by
  obtain ⟨K, h⟩ := h; obtain ⟨L, h'⟩ := h'
  exact ⟨max K L, fun k hk => by show (f k).bind (g k) = some r; rw [h k (by omega)]; exact h' k (by omega)⟩
theorem Ev.succ {α : Type} {g : Nat → Option α} {r : α} (h : Ev (fun k => g (k + 1)) r) : Ev g r := by
  obtain ⟨K, h⟩ := h
  exact ⟨K + 1, fun k hk => by obtain ⟨m, rfl⟩ : ∃ m, k = m + 1 := ⟨k - 1, by omega⟩; exact h m (by omega)⟩
theorem Ev.congr {α : Type} {f g : Nat → Option α} {r : α} (h : ∀ k, g k = f k) (k : Ev f r) : Ev g r := by rw [show g = f from funext h]; exact k
theorem Ev.ite_pos {α : Type} {g f : Nat → Option α} {r : α} {c : Prop} [Decidable c] (h : c) (k : Ev g r) : Ev (fun n => if c then g n else f n) r := Ev.congr (fun n => if_pos h) k
theorem Ev.ite_neg {α : Type} {g f : Nat → Option α} {r : α} {c : Prop} [Decidable c] (h : ¬ c) (k : Ev f r) : Ev (fun n => if c then g n else f n) r := Ev.congr (fun n => if_neg h) k
theorem Ev.of {α : Type} {g : Nat → Option α} {r : α} (m : ∀ k k', k ≤ k' → g k = some r → g k' = some r) {k : Nat} (h : g k = some r) : Ev g r := ⟨k, fun k' hk => m k k' hk h⟩
theorem Ev.some {α : Type} {g : Nat → Option α} {r : α} (h : Ev g r) : ∃ k, g k = Option.some r := by obtain ⟨K, h⟩ := h; exact ⟨K, h K (Nat.le_refl _)⟩
theorem Ev.to {α : Type} {g : Nat → Option α} {r s : α} (h : Ev g r) (e : r = s) : Ev g s := by subst e; exact h
theorem bytes_ext {a b : ByteArray} (h : a.data.toList = b.data.toList) : a = b := by
  cases a; cases b; congr 1; exact Array.toList_inj.1 h
theorem bytes_beq (a b : ByteArray) : (a.data.toList == b.data.toList) = decide (a = b) := by
  rw [Bool.eq_iff_iff, beq_iff_eq, decide_eq_true_eq]; exact ⟨bytes_ext, fun h => by rw [h]⟩
theorem loop_down {P : Nat → Prop} (n : Nat) (hend : P n) (hstep : ∀ i, i < n → P (i + 1) → P i) : ∀ i, i ≤ n → P i := by
  intro i hi
  have key : ∀ d i, i + d = n → P i := by
    intro d
    induction d with
    | zero => intro i h; have : i = n := by omega
              rw [this]; exact hend
    | succ d ih => intro i h; exact hstep i (by omega) (ih (i + 1) (by omega))
  exact key (n - i) i (by omega)
theorem wr {n : Int} (h : -9223372036854775808 ≤ n ∧ n ≤ 9223372036854775807) : IntKind.i64.wrap n = n := by rw [IntKind.wrap_i64]; omega
theorem wrn {i n : Nat} (h : i < n) (hn : n ≤ 9223372036854775807) : IntKind.i64.wrap ((i : Int) + 1) = ((i + 1 : Nat) : Int) := by rw [wr (by omega)]; omega
theorem wrp {i : Nat} (h : 0 < i) (hn : i ≤ 9223372036854775807) : IntKind.i64.wrap ((i : Int) - 1) = ((i - 1 : Nat) : Int) := by rw [wr (by omega)]; omega
theorem drop_cons {α : Type} (z : α) {l : List α} {i : Nat} (h : i < l.length) : l.drop i = l.getD (i : Int).toNat z :: l.drop (i + 1) := by
  rw [List.drop_eq_getElem_cons h]; simp [h]
theorem getD_mem {α : Type} (z : α) {l : List α} {i : Nat} (h : i < l.length) : l.getD (i : Int).toNat z ∈ l := by simp [h]
end Go.Proofs.YtjhnpaenhdbhpaaV
set_option linter.unusedVariables false
set_option linter.unusedSimpArgs false
namespace Go.Proofs.YtjhnpaenhdbhpaaV
open Go Go.RowKit
theorem V_ext {x y : TValue} (h0 : x.f0 = y.f0) (h1 : x.f1 = y.f1) (h2 : x.f2 = y.f2) : x = y := by cases x; cases y; simp_all
instance : DecidableEq TValue := fun x y => decidable_of_iff (x.f0 = y.f0 ∧ x.f1 = y.f1 ∧ x.f2 = y.f2) ⟨fun h => V_ext h.1 h.2.1 h.2.2, fun h => by subst h; exact ⟨rfl, rfl, rfl⟩⟩
def okV (x : TValue) : Bool :=
  if x.f0 = 0 then decide (x.f1 = 0) && decide (x.f2 = (⟨#[]⟩ : ByteArray))
  else if x.f0 = 1 then decide (-4294967296 ≤ x.f1 ∧ x.f1 ≤ 4294967296) && decide (x.f2 = (⟨#[]⟩ : ByteArray))
  else if x.f0 = 2 then decide (x.f1 = 0) && decide (x.f2.size ≤ 32)
  else false
def clV (x : TValue) : TValue := if okV x then x else ⟨0, 0, ⟨#[]⟩⟩
theorem beq_empty (a : ByteArray) : (a.data.toList == (#[] : Array UInt8).toList) = decide (a = (⟨#[]⟩ : ByteArray)) := bytes_beq a ⟨#[]⟩
theorem beq_nil (a : ByteArray) : (a.data.toList == ([] : List UInt8)) = decide (a = (⟨#[]⟩ : ByteArray)) := bytes_beq a ⟨#[]⟩
theorem value_Valid_eq (k : Nat) (v : TValue) : value_Valid k v = some (okV v) := by
  unfold value_Valid value_inRange okV
  simp only [beq_empty, beq_nil, beq_iff_eq, decide_eq_true_eq]
  generalize decide (v.f2 = (⟨#[]⟩ : ByteArray)) = q
  by_cases h0 : v.f0 = 0
  · simp only [if_pos h0]
    by_cases h1 : v.f1 = 0 <;> simp [h1]
  · simp only [if_neg h0]
    by_cases h1 : v.f0 = 1
    · simp only [if_pos h1]
      by_cases h2 : v.f1 ≥ -4294967296
      · rw [if_pos h2]; simp only [Option.bind_some, decide_eq_true_eq]
        by_cases h3 : v.f1 ≤ 4294967296
        · rw [if_pos h3]; simp [h3]; omega
        · rw [if_neg h3]; simp [h3]
      · rw [if_neg h2]; simp; omega
    · simp only [if_neg h1]
      by_cases h2 : v.f0 = 2
      · simp only [if_pos h2]
        by_cases h3 : v.f1 = 0
        · simp [h3]; omega
        · simp [h3]
      · simp [h2]
theorem ref01_Valid_eq (k : Nat) (v : TValue) : erasureref01_Valid k v = some (okV v) := by
  rw [← value_Valid_eq k]
  unfold erasureref01_Valid value_Valid value_inRange
  by_cases h0 : (v.f0 == 0) = true
  · simp only [if_pos h0]
  · simp only [if_neg h0]
    by_cases h1 : (v.f0 == 1) = true
    · simp only [if_pos h1]
      by_cases h2 : decide (v.f1 ≥ -4294967296) = true
      · simp only [if_pos h2, Option.bind_some]
      · simp only [if_neg h2, Option.bind_some, Bool.false_eq_true, if_false]
    · simp only [if_neg h1]
theorem value_Clean_eq (k : Nat) (x : TValue) : value_Clean k x = some (clV x) := by
  unfold value_Clean clV value_Clean.p1 value_Clean.p2
  rw [value_Valid_eq, Option.bind_some]
  by_cases h : okV x = true
  · rw [if_pos h, if_pos h]
  · rw [if_neg h, if_neg h]
theorem ref01_Clean_eq (k : Nat) (x : TValue) : erasureref01_Clean k x = some (clV x) := by
  unfold erasureref01_Clean clV erasureref01_Clean.p1 erasureref01_Clean.p2
  rw [ref01_Valid_eq, Option.bind_some]
  by_cases h : okV x = true
  · rw [if_pos h, if_pos h]
  · rw [if_neg h, if_neg h]
theorem eqV_iff (x y : TValue) : ((x.f0 == y.f0) && ((x.f1 == y.f1) && ((x.f2.data.toList == y.f2.data.toList) && true))) = decide (x = y) := by
  rw [bytes_beq, Bool.eq_iff_iff]
  simp only [Bool.and_eq_true, beq_iff_eq, decide_eq_true_eq, and_true]
  exact ⟨fun h => V_ext h.1 h.2.1 h.2.2, fun h => by subst h; exact ⟨rfl, rfl, rfl⟩⟩
theorem dV {l : List TValue} {i : Nat} (h : i < l.length) : l.drop i = l.getD (i : Int).toNat dValue :: l.drop (i + 1) := drop_cons _ h
theorem dE {l : List TEntry} {i : Nat} (h : i < l.length) : l.drop i = l.getD (i : Int).toNat dEntry :: l.drop (i + 1) := drop_cons _ h
end Go.Proofs.YtjhnpaenhdbhpaaV
set_option linter.unusedVariables false
set_option linter.unusedSimpArgs false
namespace Go.Proofs.YtjhnpaenhdbhpaaV
open Go Go.RowKit
theorem bytesLess_eq : ∀ (x y : List UInt8), Op.bytesLess x y = decide (x < y)
  | [], [] => by simp [Op.bytesLess]
  | _ :: _, [] => by simp [Op.bytesLess]
  | [], _ :: _ => by simp [Op.bytesLess]
  | a :: x, b :: y => by
    rw [Op.bytesLess, bytesLess_eq x y]
    simp only [List.cons_lt_cons_iff]
    by_cases h1 : a < b <;> by_cases h2 : a = b <;> by_cases h3 : x < y <;> simp [h1, h2, h3]
theorem gtr_flip (a b : List UInt8) : (!(Op.bytesLess a b || a == b)) = Op.bytesLess b a := by
  rw [bytesLess_eq, bytesLess_eq, Bool.eq_iff_iff]
  simp only [Bool.not_eq_true', Bool.or_eq_false_iff, decide_eq_false_iff_not, beq_eq_false_iff_ne, decide_eq_true_eq]
  constructor
  · rintro ⟨h1, h2⟩
    rcases Std.lt_trichotomy a b with h | h | h
    · exact absurd h h1
    · exact absurd h h2
    · exact h
  · intro h
    exact ⟨fun h1 => (List.lt_asymm h h1), fun h1 => by subst h1; exact List.lt_irrefl _ h⟩
theorem okV_z : okV (⟨0, 0, ⟨#[]⟩⟩ : TValue) = true := by decide +kernel
theorem okV_cl (x : TValue) : okV (clV x) = true := by
  unfold clV
  by_cases h : okV x = true
  · rw [if_pos h]; exact h
  · rw [if_neg h]; exact okV_z
theorem clV_ok {x : TValue} (h : okV x = true) : clV x = x := if_pos h
def cmpI (a b : Int) : Int := if a < b then -1 else if b < a then 1 else 0
def cmpB (a b : ByteArray) : Int := if a.data.toList < b.data.toList then -1 else if b.data.toList < a.data.toList then 1 else 0
def cmpC (a b : TValue) : Int := if a.f0 ≠ b.f0 then cmpI a.f0 b.f0 else if a.f0 = 1 then cmpI a.f1 b.f1 else cmpB a.f2 b.f2
def cmpV (x y : TValue) : Int := cmpC (clV x) (clV y)
theorem cmp_int_eq (k : Nat) (a b : Int) : cmp_Compare_int k a b = some (cmpI a b) := by
  unfold cmp_Compare_int cmp_isNaN_int cmpI
  simp only [Option.bind_some, bne_self_eq_false, Bool.false_eq_true, if_false, GT.gt, decide_eq_true_eq]
  repeat' split
  all_goals rfl
theorem cmp_int64_eq (k : Nat) (a b : Int) : cmp_Compare_int64 k a b = some (cmpI a b) := by
  unfold cmp_Compare_int64 cmp_isNaN_int64 cmpI
  simp only [Option.bind_some, bne_self_eq_false, Bool.false_eq_true, if_false, GT.gt, decide_eq_true_eq]
  repeat' split
  all_goals rfl
theorem cmp_string_eq (k : Nat) (a b : ByteArray) : cmp_Compare_string k a b = some (cmpB a b) := by
  unfold cmp_Compare_string cmp_isNaN_string cmpB
  simp only [gtr_flip]
  simp only [Option.bind_some, beq_self_eq_true, Bool.not_true, Bool.false_eq_true, if_false, bytesLess_eq, decide_eq_true_eq]
  repeat' split
  all_goals rfl
theorem value_Compare_eq (k : Nat) (x y : TValue) : value_Compare k x y = some (cmpV x y) := by
  unfold value_Compare cmpV cmpC
  rw [value_Clean_eq, value_Clean_eq]
  simp only [Option.bind_some, cmp_int_eq, cmp_int64_eq, cmp_string_eq, bne_iff_ne, beq_iff_eq]
  repeat' split
  all_goals rfl
end Go.Proofs.YtjhnpaenhdbhpaaV
set_option linter.unusedVariables false
set_option linter.unusedSimpArgs false
namespace Go.Proofs.YtjhnpaenhdbhpaaV
open Go Go.RowKit
def cmpR : List TValue → List TValue → Int
  | [], [] => 0
  | [], _ :: _ => -1
  | _ :: _, [] => 1
  | x :: xs, y :: ys => if cmpV x y = 0 then cmpR xs ys else cmpV x y
theorem cmpR_nil (xs : List TValue) : cmpR xs [] = if xs.length = 0 then 0 else 1 := by cases xs <;> rfl
theorem nil_cmpR (ys : List TValue) : cmpR [] ys = if ys.length = 0 then 0 else -1 := by cases ys <;> rfl
theorem value_CompareRows_ev (xs ys : List TValue) (hx : xs.length ≤ 9223372036854775807) : Ev (fun k => value_CompareRows k xs ys) (cmpR xs ys) := by
  unfold value_CompareRows slices_CompareFunc_api_Value__value_Compare
  refine Ev.bind ?_ (Ev.now _)
  refine (loop_down (P := fun i => i ≤ ys.length → Ev (fun k => slices_CompareFunc_api_Value__value_Compare.p1 k xs ys xs (xs.length : Int) (i : Int)) (cmpR (xs.drop i) (ys.drop i))) xs.length ?_ ?_ 0 (by omega)) (by omega)
  · intro hy
    refine Ev.succ ?_
    simp only [slices_CompareFunc_api_Value__value_Compare.p1, decide_eq_true_eq]
    rw [List.drop_length, nil_cmpR, List.length_drop]
    refine Ev.ite_neg (by omega) ?_
    by_cases h : xs.length < ys.length
    · exact Ev.ite_pos (by omega) (Ev.done (by rw [if_neg (by omega)]))
    · exact Ev.ite_neg (by omega) (Ev.done (by rw [if_pos (by omega)]))
  · intro i hi ih hy
    refine Ev.succ ?_
    simp only [slices_CompareFunc_api_Value__value_Compare.p1, decide_eq_true_eq, value_Compare_eq, Option.bind_some, bne_iff_ne, ne_eq, ite_not]
    refine Ev.ite_pos (by omega) (Ev.ite_pos (by omega) ?_)
    by_cases h : i < ys.length
    · refine Ev.ite_neg (by omega) (Ev.ite_pos (by omega) ?_)
      rw [dV hi, dV h, wrn hi hx]
      unfold cmpR
      by_cases hc : cmpV (xs.getD (i : Int).toNat dValue) (ys.getD (i : Int).toNat dValue) = 0
      · rw [if_pos hc]; exact Ev.ite_pos hc (ih (by omega))
      · rw [if_neg hc]; exact Ev.ite_neg hc (Ev.now _)
    · rw [List.drop_eq_nil_of_le (show ys.length ≤ i by omega), cmpR_nil, List.length_drop, if_neg (by omega)]
      exact Ev.ite_pos (by omega) (Ev.now _)
def okRow (l : List TValue) : Bool := l.all okV && decide (l.length ≤ 16)
theorem value_ValidRow_ev (l : List TValue) (hl : l.length ≤ 9223372036854775807) : Ev (fun k => value_ValidRow k l) (okRow l) := by
  unfold value_ValidRow
  refine (loop_down (P := fun i => Ev (fun k => value_ValidRow.p1 k l l (l.length : Int) (i : Int)) ((l.drop i).all okV && decide (l.length ≤ 16))) l.length ?_ ?_ 0 (by omega))
  · refine Ev.succ ?_
    simp only [value_ValidRow.p1, decide_eq_true_eq]
    rw [List.drop_length]
    refine Ev.ite_neg (by omega) (Ev.done ?_)
    simp; omega
  · intro i hi ih
    refine Ev.succ ?_
    simp only [value_ValidRow.p1, value_Valid_eq, Option.bind_some, decide_eq_true_eq]
    refine Ev.ite_pos (by omega) (Ev.ite_pos (by omega) ?_)
    rw [dV hi, wrn hi hl, List.all_cons]
    cases hc : okV (l.getD (i : Int).toNat dValue) with
    | true => exact Ev.ite_neg (by simp) ih
    | false => exact Ev.ite_pos rfl (Ev.now _)
def okE (e : TEntry) : Bool := okRow e.f0 && decide (-262144 ≤ e.f1 ∧ e.f1 ≤ 262144)
theorem countFits_eq (k : Nat) (n : Int) : bag_countFits k n = some (decide (-262144 ≤ n ∧ n ≤ 262144)) := by
  unfold bag_countFits
  simp only [decide_eq_true_eq]
  by_cases h : n ≥ -262144
  · rw [if_pos h]; simp; omega
  · rw [if_neg h]; simp; omega
theorem entryFits_ev (e : TEntry) (hl : e.f0.length ≤ 9223372036854775807) : Ev (fun k => bag_entryFits k e) (okE e) := by
  unfold bag_entryFits okE
  refine Ev.bind (value_ValidRow_ev _ hl) ?_
  cases hc : okRow e.f0 with
  | true => simp only [if_true, countFits_eq, Option.bind_some, Bool.true_and]; exact Ev.now _
  | false => simp only [Bool.false_eq_true, if_false, Bool.false_and]; exact Ev.now _
def bvF : Option TEntry → List TEntry → Bool
  | _, [] => true
  | none, e :: l => okE e && !decide (e.f1 = 0) && bvF (some e) l
  | some p, e :: l => okE e && !decide (e.f1 = 0) && decide (cmpR p.f0 e.f0 < 0) && bvF (some e) l
def bagV (l : List TEntry) : Bool := bvF none l && decide (l.length ≤ 4096)
def prevE (l : List TEntry) (i : Nat) : Option TEntry := if i = 0 then none else some (l.getD ((i - 1 : Nat) : Int).toNat dEntry)
def Fin (l : List TEntry) : Prop := l.length ≤ 9223372036854775807 ∧ ∀ e ∈ l, e.f0.length ≤ 9223372036854775807
theorem Fin.at {l : List TEntry} (h : Fin l) {i : Nat} (hi : i < l.length) : (l.getD (i : Int).toNat dEntry).f0.length ≤ 9223372036854775807 := h.2 _ (getD_mem _ hi)
theorem bag_Valid_ev (l : List TEntry) (hl : Fin l) : Ev (fun k => bag_Valid k l) (bagV l) := by
  unfold bag_Valid
  refine (loop_down (P := fun i => Ev (fun k => bag_Valid.p1 k l l (l.length : Int) (i : Int)) (bvF (prevE l i) (l.drop i) && decide (l.length ≤ 4096))) l.length ?_ ?_ 0 (by omega))
  · refine Ev.succ ?_
    simp only [bag_Valid.p1, decide_eq_true_eq]
    rw [List.drop_length]
    refine Ev.ite_neg (by omega) (Ev.done ?_)
    simp [bvF]; omega
  · intro i hi ih
    have hp : prevE l (i + 1) = some (l.getD (i : Int).toNat dEntry) := by simp [prevE]
    rw [hp] at ih
    refine Ev.succ ?_
    simp only [bag_Valid.p1, decide_eq_true_eq, beq_iff_eq]
    refine Ev.ite_pos (by omega) (Ev.ite_pos (by omega) (Ev.bind (entryFits_ev _ (hl.at hi)) ?_))
    rw [dE hi, wrn hi hl.1]
    cases hc : okE (l.getD (i : Int).toNat dEntry) with
    | false => refine Ev.ite_pos rfl (Ev.done ?_); unfold bvF; cases prevE l i <;> simp only [hc, Bool.false_and]
    | true =>
      refine Ev.ite_neg (by simp) ?_
      by_cases hz : (l.getD (i : Int).toNat dEntry).f1 = 0
      · refine Ev.ite_pos hz (Ev.done ?_); unfold bvF; cases prevE l i <;> simp only [hz, decide_true, Bool.not_true, Bool.and_false, Bool.false_and]
      · refine Ev.ite_neg hz ?_
        by_cases h0 : i = 0
        · subst h0
          refine Ev.ite_neg (by omega) (ih.to ?_)
          simp only [prevE, if_true, bvF, hc, decide_eq_false hz, Bool.not_false, Bool.and_self, Bool.true_and]
        · have hl1 := hl.1
          rw [wrp (by omega) (by omega)]
          refine Ev.ite_pos (by omega) (Ev.ite_pos (by omega) (Ev.bind (value_CompareRows_ev _ _ (hl.at (show i - 1 < l.length by omega))) ?_))
          simp only [prevE, if_neg h0, bvF, hc, decide_eq_false hz, Bool.not_false, Bool.true_and]
          by_cases hcmp : cmpR (l.getD ((i - 1 : Nat) : Int).toNat dEntry).f0 (l.getD (i : Int).toNat dEntry).f0 < 0
          · rw [decide_eq_true hcmp]; exact Ev.ite_neg (by omega) (by simpa using ih)
          · rw [decide_eq_false hcmp]; exact Ev.ite_pos (by omega) (Ev.now _)
end Go.Proofs.YtjhnpaenhdbhpaaV
set_option linter.unusedVariables false
set_option linter.unusedSimpArgs false
namespace Go.Proofs.YtjhnpaenhdbhpaaV
open Go Go.RowKit
theorem U_ext {x y : TPublished} (h0 : x.f0 = y.f0) (h1 : x.f1 = y.f1) : x = y := by cases x; cases y; simp_all
instance : DecidableEq TPublished := fun x y => decidable_of_iff (x.f0 = y.f0 ∧ x.f1 = y.f1) ⟨fun h => U_ext h.1 h.2, fun h => by subst h; exact ⟨rfl, rfl⟩⟩
theorem dU {l : List TPublished} {i : Nat} (h : i < l.length) : l.drop i = l.getD (i : Int).toNat dPublished :: l.drop (i + 1) := drop_cons _ h
theorem cleaned_ev (l : List TValue) (hl : l.length ≤ 1099511627776) : Ev (fun k => release_cleaned k l) (l.map clV) := by
  unfold release_cleaned
  have key : ∀ i, i ≤ l.length → ∀ acc : List TValue, acc.length = i → Ev (fun k => release_cleaned.p1 k l (i : Int) acc) (acc ++ (l.drop i).map clV) := by
    refine loop_down (P := fun i => ∀ acc : List TValue, acc.length = i → Ev (fun k => release_cleaned.p1 k l (i : Int) acc) (acc ++ (l.drop i).map clV)) l.length ?_ ?_
    · intro acc _
      refine Ev.succ ?_
      simp only [release_cleaned.p1, decide_eq_true_eq]
      rw [List.drop_length]
      exact Ev.ite_neg (by omega) (Ev.done (by simp))
    · intro i hi ih acc ha
      refine Ev.succ ?_
      simp only [release_cleaned.p1, value_Clean_eq, Option.bind_some, decide_eq_true_eq]
      refine Ev.ite_pos (by omega) (Ev.ite_pos (by omega) (Ev.ite_pos (by simp only [maxLen, List.length_singleton]; omega) ?_))
      rw [dV hi, wrn hi (by omega), List.map_cons]
      exact (ih (acc ++ [clV (l.getD (i : Int).toNat dValue)]) (by simp [ha])).to (by simp)
  exact key 0 (by omega) [] rfl
def pubE (T keys : Int) (e : TEntry) : Option TPublished :=
  if e.f1 = 1 ∧ keys < (e.f0.length : Int) ∧ (e.f0.getD keys.toNat dValue).f0 = 1 ∧ T ≤ (e.f0.getD keys.toNat dValue).f1 ∧ (e.f0.getD keys.toNat dValue).f1 ≤ 4294967296 then
    some ⟨(e.f0.take keys.toNat).map clV, (e.f0.getD keys.toNat dValue).f1 - Int.tmod (e.f0.getD keys.toNat dValue).f1 T⟩ else none
def pubS (T keys : Int) (l : List TEntry) : List TPublished := if T < 1 ∨ keys < 0 ∨ bagV l = false then [] else l.filterMap (pubE T keys)
theorem tmod_rng {n T : Int} (h1 : 1 ≤ T) (h2 : T ≤ n) : 0 ≤ Int.tmod n T ∧ Int.tmod n T < T := ⟨Int.tmod_nonneg _ (by omega), Int.tmod_lt_of_pos _ (by omega)⟩
theorem subL_zero {α : Type} (l : List α) (n : Int) : subL l (0 : Int) n = l.take n.toNat := by simp [subL]
theorem step_ev (T keys : Int) (hT : 1 ≤ T) (hk : 0 ≤ keys) (e : TEntry) (ys : List TPublished) (he : e.f0.length ≤ 1099511627776) (hy : ys.length ≤ 1099511627776) :
    Ev (fun k => release_Publish_1__x0 k e keys T ys) (keys, T, ys ++ (pubE T keys e).toList) := by
  unfold release_Publish_1__x0 pubE
  simp only [bne_iff_ne, ne_eq, ite_not, decide_eq_true_eq]
  by_cases c1 : e.f1 = 1
  · refine Ev.ite_pos c1 ?_
    by_cases c2 : keys < (e.f0.length : Int)
    · refine Ev.ite_neg (by omega) (Ev.ite_pos ⟨hk, c2⟩ ?_)
      by_cases c3 : (e.f0.getD keys.toNat dValue).f0 = 1
      · refine Ev.ite_pos c3 ?_
        by_cases c4 : (e.f0.getD keys.toNat dValue).f1 < T
        · refine Ev.ite_pos c4 (Ev.done ?_)
          rw [if_neg (fun h => by omega)]; simp
        · refine Ev.ite_neg c4 ?_
          by_cases c5 : (e.f0.getD keys.toNat dValue).f1 > 4294967296
          · refine Ev.ite_pos c5 (Ev.done ?_)
            rw [if_neg (fun h => by omega)]; simp
          · have hr := tmod_rng hT (show T ≤ (e.f0.getD keys.toNat dValue).f1 by omega)
            rw [subL_zero]
            refine Ev.ite_neg c5 (Ev.ite_pos (by omega) (Ev.bind (cleaned_ev _ (by rw [List.length_take]; omega)) ?_))
            refine Ev.ite_neg (by omega) (Ev.ite_pos (by simp only [maxLen, List.length_singleton]; omega) (Ev.done ?_))
            rw [if_pos ⟨c1, c2, c3, by omega, by omega⟩, wr (by omega)]
            rfl
      · refine Ev.ite_neg c3 (Ev.done ?_)
        rw [if_neg (fun h => c3 h.2.2.1)]; simp
    · refine Ev.ite_pos (by omega) (Ev.done ?_)
      rw [if_neg (fun h => c2 h.2.1)]; simp
  · refine Ev.ite_neg c1 (Ev.done ?_)
    rw [if_neg (fun h => c1 h.1)]; simp
theorem bvF_mem : ∀ (l : List TEntry) (p : Option TEntry), bvF p l = true → ∀ e ∈ l, okE e = true
  | [], _, _, e, he => by cases he
  | x :: l, p, h, e, he => by
    have h1 : okE x = true ∧ bvF (some x) l = true := by
      cases p <;> simp only [bvF, Bool.and_eq_true] at h
      · exact ⟨h.1.1, h.2⟩
      · exact ⟨h.1.1.1, h.2⟩
    rcases List.mem_cons.1 he with rfl | he
    · exact h1.1
    · exact bvF_mem l _ h1.2 e he
theorem bagV_mem {l : List TEntry} (h : bagV l = true) : ∀ e ∈ l, okE e = true := by
  simp only [bagV, Bool.and_eq_true] at h
  exact bvF_mem l none h.1
theorem bagV_len {l : List TEntry} (h : bagV l = true) : l.length ≤ 4096 := by
  simp only [bagV, Bool.and_eq_true, decide_eq_true_eq] at h
  exact h.2
theorem okE_len {e : TEntry} (h : okE e = true) : e.f0.length ≤ 16 := by
  simp only [okE, okRow, Bool.and_eq_true, decide_eq_true_eq] at h
  exact h.1.2
theorem Publish_ev (r : TRelease) (keys : Int) (l : List TEntry) (hl : Fin l) : Ev (fun k => release_Publish k r keys l) (pubS r.f2 keys l) := by
  unfold release_Publish pubS
  simp only [decide_eq_true_eq]
  by_cases c1 : r.f2 < 1
  · rw [if_pos (.inl c1)]; exact Ev.ite_pos c1 (Ev.now _)
  · refine Ev.ite_neg c1 ?_
    by_cases c2 : keys < 0
    · rw [if_pos (.inr (.inl c2))]; exact Ev.ite_pos c2 (Ev.now _)
    · refine Ev.ite_neg c2 (Ev.bind (bag_Valid_ev l hl) ?_)
      cases hb : bagV l with
      | false => rw [if_pos (by simp)]; exact Ev.ite_pos rfl (Ev.now _)
      | true =>
        rw [if_neg (by simp; omega)]
        refine Ev.ite_neg (by simp) ?_
        have hmem := bagV_mem hb
        have hlen := bagV_len hb
        have key : ∀ i, i ≤ l.length → ∀ acc : List TPublished, acc.length ≤ i → Ev (fun k => release_Publish.p1 k l (i : Int) keys r.f2 acc) (acc ++ (l.drop i).filterMap (pubE r.f2 keys)) := by
          refine loop_down (P := fun i => ∀ acc : List TPublished, acc.length ≤ i → Ev (fun k => release_Publish.p1 k l (i : Int) keys r.f2 acc) (acc ++ (l.drop i).filterMap (pubE r.f2 keys))) l.length ?_ ?_
          · intro acc _
            refine Ev.succ ?_
            simp only [release_Publish.p1, decide_eq_true_eq]
            rw [List.drop_length]
            exact Ev.ite_neg (by omega) (Ev.done (by simp))
          · intro i hi ih acc ha
            refine Ev.succ ?_
            simp only [release_Publish.p1, decide_eq_true_eq]
            have h16 := okE_len (hmem _ (getD_mem dEntry hi))
            refine Ev.ite_pos (by omega) (Ev.ite_pos (by omega) (Ev.bind (step_ev r.f2 keys (by omega) (by omega) _ acc (by omega) (by omega)) ?_))
            rw [dE hi, wrn hi (by omega)]
            have hle : (acc ++ (pubE r.f2 keys (l.getD (i : Int).toNat dEntry)).toList).length ≤ i + 1 := by cases pubE r.f2 keys (l.getD (i : Int).toNat dEntry) <;> simp <;> omega
            refine (ih (acc ++ (pubE r.f2 keys (l.getD (i : Int).toNat dEntry)).toList) hle).to ?_
            rw [List.filterMap_cons]
            cases pubE r.f2 keys (l.getD (i : Int).toNat dEntry) <;> simp
        exact key 0 (by omega) [] (by simp)
def FinU (l : List TPublished) : Prop := l.length ≤ 9223372036854775807 ∧ ∀ e ∈ l, e.f0.length ≤ 9223372036854775807
end Go.Proofs.YtjhnpaenhdbhpaaV
set_option linter.unusedVariables false
set_option linter.unusedSimpArgs false
namespace Go.Proofs.YtjhnpaenhdbhpaaV
open Go Go.RowKit
theorem bits_mask_all (i : Nat) (hi : i < 63) (x : Int) : Go.bits .and .i64 x (2 ^ i - 1) = x % 2 ^ i := by
  have hpos : 0 < 2 ^ i := Nat.two_pow_pos i
  have hlt : 2 ^ i < 2 ^ 63 := Nat.pow_lt_pow_right (by decide) hi
  have hc : ((2 : Int) ^ i - 1) = ((2 ^ i - 1 : Nat) : Int) := by rw [Int.natCast_sub hpos]; simp
  rw [hc]
  unfold Go.bits
  have hb : (IntKind.i64).bits = 64 := rfl
  simp only [BitVec.toNat_and, BitVec.toNat_ofInt, BitVec.ofInt_natCast, BitVec.toNat_ofNat, hb]
  have h1 : (2 ^ i - 1) % 2 ^ 64 = 2 ^ i - 1 := Nat.mod_eq_of_lt (Nat.lt_of_lt_of_le (Nat.sub_lt hpos (by decide)) (Nat.le_of_lt (Nat.lt_trans hlt (by decide))))
  rw [h1, Nat.and_two_pow_sub_one_eq_mod]
  have h2 : (((x % ((2 ^ 64 : Nat) : Int)).toNat % 2 ^ i : Nat) : Int) = x % 2 ^ i := by
    rw [Int.natCast_emod, Int.toNat_of_nonneg (Int.emod_nonneg _ (by decide))]
    have hd : ((2 ^ i : Nat) : Int) ∣ ((2 ^ 64 : Nat) : Int) := by
      refine Int.natCast_dvd_natCast.2 (Nat.pow_dvd_pow 2 (by omega))
    rw [Int.emod_emod_of_dvd _ hd]
    simp
  rw [h2]
  have h3 : 0 ≤ x % 2 ^ i := Int.emod_nonneg _ (by have : (0 : Int) < 2 ^ i := by exact_mod_cast hpos
                                                   omega)
  have h4 : x % 2 ^ i < 2 ^ i := Int.emod_lt_of_pos _ (by exact_mod_cast hpos)
  have h5 : (2 : Int) ^ i < 2 ^ 63 := by exact_mod_cast hlt
  rw [IntKind.wrap_i64]
  omega
theorem and1023 (x : Int) : Go.bits .and .i64 x 1023 = x % 1024 := bits_mask_all 10 (by decide) x
theorem awake_ev : Ev (fun k => erasurelaw35_awake k) true := Ev.of (fun k k' hk h => erasurelaw35_awake.mono k k' true hk h) (k := 40) (by kernel_rfl)
def intV (n : Int) : TValue := ⟨1, n, ⟨#[]⟩⟩
theorem okV_int {n : Int} (h : -4294967296 ≤ n ∧ n ≤ 4294967296) : okV (intV n) = true := by
  unfold okV intV
  rw [if_neg (show ¬ ((1 : Int) = 0) by decide), if_pos rfl]
  simp [h]
theorem ref01_Int_eq (k : Nat) {n : Int} (h : -4294967296 ≤ n ∧ n ≤ 4294967296) : erasureref01_Int k n = some (intV n) := by
  unfold erasureref01_Int
  have := ref01_Clean_eq k (intV n)
  rw [clV_ok (okV_int h)] at this
  have e : erasureref01_Clean k (TValue.mk 1 n ⟨#[]⟩) = some (intV n) := this
  rw [e]; rfl
def rowG (i : Nat) (n : Int) : TEntry := ⟨[intV i, intV n], 1⟩
theorem ref22_SameRow_ev (a b : List TValue) (ha : a.length ≤ 9223372036854775807) : Ev (fun k => erasureref22_SameRow k a b) (decide (a = b)) := by
  unfold erasureref22_SameRow
  simp only [bne_iff_ne, ne_eq, ite_not]
  by_cases hl : a.length = b.length
  · refine Ev.ite_pos (by omega) ?_
    refine (loop_down (P := fun i => Ev (fun k => erasureref22_SameRow.p1 k a b (i : Int)) (decide (a.drop i = b.drop i))) a.length ?_ ?_ 0 (by omega))
    · refine Ev.succ ?_
      simp only [erasureref22_SameRow.p1, decide_eq_true_eq]
      rw [List.drop_length, List.drop_eq_nil_of_le (show b.length ≤ a.length by omega)]
      exact Ev.ite_neg (by omega) (Ev.done (by simp))
    · intro i hi ih
      refine Ev.succ ?_
      simp only [erasureref22_SameRow.p1, eqV_iff, decide_eq_true_eq, Bool.not_eq_true', decide_eq_false_iff_not]
      refine Ev.ite_pos (by omega) (Ev.ite_pos (by omega) (Ev.ite_pos (by omega) ?_))
      rw [dV hi, dV (show i < b.length by omega), wrn hi ha]
      by_cases h : a.getD (i : Int).toNat dValue = b.getD (i : Int).toNat dValue
      · exact Ev.ite_neg (fun e => e h) (ih.to (by rw [h]; simp))
      · exact Ev.ite_pos h (Ev.done (by rw [decide_eq_false]; intro e; exact h (List.cons.inj e).1))
  · refine Ev.ite_neg (by omega) (Ev.done ?_)
    rw [decide_eq_false (fun e => hl (by rw [e]))]
theorem ref26_SameRow_ev (a b : List TValue) (ha : a.length ≤ 9223372036854775807) : Ev (fun k => erasureref26_SameRow k a b) (decide (a = b)) := by
  unfold erasureref26_SameRow
  exact Ev.bind (ref22_SameRow_ev a b ha) (Ev.now _)
theorem Same_ev (a b : List TPublished) (ha : FinU a) : Ev (fun k => erasureref35_Same k a b) (decide (a = b)) := by
  unfold erasureref35_Same
  simp only [bne_iff_ne, ne_eq, ite_not]
  by_cases hl : a.length = b.length
  · refine Ev.ite_pos (by omega) ?_
    refine (loop_down (P := fun i => Ev (fun k => erasureref35_Same.p1 k a b (i : Int)) (decide (a.drop i = b.drop i))) a.length ?_ ?_ 0 (by omega))
    · refine Ev.succ ?_
      simp only [erasureref35_Same.p1, decide_eq_true_eq]
      rw [List.drop_length, List.drop_eq_nil_of_le (show b.length ≤ a.length by omega)]
      exact Ev.ite_neg (by omega) (Ev.done (by simp))
    · intro i hi ih
      refine Ev.succ ?_
      simp only [erasureref35_Same.p1, decide_eq_true_eq, bne_iff_ne, ne_eq, ite_not]
      refine Ev.ite_pos (by omega) (Ev.ite_pos (by omega) (Ev.ite_pos (by omega) ?_))
      rw [dU hi, dU (show i < b.length by omega), wrn hi ha.1]
      by_cases h1 : (a.getD (i : Int).toNat dPublished).f1 = (b.getD (i : Int).toNat dPublished).f1
      · refine Ev.ite_pos h1 (Ev.bind (ref26_SameRow_ev _ _ (ha.2 _ (getD_mem _ hi))) ?_)
        by_cases h0 : (a.getD (i : Int).toNat dPublished).f0 = (b.getD (i : Int).toNat dPublished).f0
        · rw [decide_eq_true h0]
          exact Ev.ite_neg (by simp) (ih.to (by rw [U_ext h0 h1]; simp))
        · rw [decide_eq_false h0]
          refine Ev.ite_pos rfl (Ev.done ?_)
          rw [decide_eq_false]
          intro e; exact h0 (by rw [(List.cons.inj e).1])
      · refine Ev.ite_neg h1 (Ev.done ?_)
        rw [decide_eq_false]
        intro e; exact h1 (by rw [(List.cons.inj e).1])
  · refine Ev.ite_neg (by omega) (Ev.done ?_)
    rw [decide_eq_false (fun e => hl (by rw [e]))]
end Go.Proofs.YtjhnpaenhdbhpaaV
set_option linter.unusedVariables false
set_option linter.unusedSimpArgs false
namespace Go.Proofs.YtjhnpaenhdbhpaaV
open Go Go.RowKit
def IsG : Nat → List TEntry → Prop
  | _, [] => True
  | i, e :: l => ∃ (a : Nat) (n : Int), i ≤ a ∧ a < 40 ∧ 0 < n ∧ n < 1024 ∧ e = rowG a n ∧ IsG (a + 1) l
theorem IsG.len : ∀ {l : List TEntry} {i : Nat}, IsG i l → l.length + i ≤ 40 ∨ l = []
  | [], _, _ => .inr rfl
  | e :: l, i, ⟨a, n, h1, h2, h3, h4, h5, h6⟩ => by
    rcases h6.len with h | h
    · left; simp; omega
    · subst h; left; simp; omega
end Go.Proofs.YtjhnpaenhdbhpaaV
set_option linter.unusedVariables false
set_option linter.unusedSimpArgs false
namespace Go.Proofs.YtjhnpaenhdbhpaaV
open Go Go.RowKit
theorem cleanRow_ev (l : List TValue) (hl : l.length ≤ 1099511627776) : Ev (fun k => erasureref26_CleanRow k l) (l.map clV) := by
  unfold erasureref26_CleanRow
  have key : ∀ i, i ≤ l.length → ∀ acc : List TValue, acc.length = i → Ev (fun k => erasureref26_CleanRow.p1 k l (i : Int) acc) (acc ++ (l.drop i).map clV) := by
    refine loop_down (P := fun i => ∀ acc : List TValue, acc.length = i → Ev (fun k => erasureref26_CleanRow.p1 k l (i : Int) acc) (acc ++ (l.drop i).map clV)) l.length ?_ ?_
    · intro acc _
      refine Ev.succ ?_
      simp only [erasureref26_CleanRow.p1, decide_eq_true_eq]
      rw [List.drop_length]
      exact Ev.ite_neg (by omega) (Ev.done (by simp))
    · intro i hi ih acc ha
      refine Ev.succ ?_
      simp only [erasureref26_CleanRow.p1, ref01_Clean_eq, Option.bind_some, decide_eq_true_eq]
      refine Ev.ite_pos (by omega) (Ev.ite_pos (by omega) (Ev.ite_pos (by simp only [maxLen, List.length_singleton]; omega) ?_))
      rw [dV hi, wrn hi (by omega), List.map_cons]
      exact (ih (acc ++ [clV (l.getD (i : Int).toNat dValue)]) (by simp [ha])).to (by simp)
  exact key 0 (by omega) [] rfl
theorem map_cl_ok (l : List TValue) : ∀ v ∈ l.map clV, okV v = true := by
  intro v hv
  obtain ⟨u, _, rfl⟩ := List.mem_map.1 hv
  exact okV_cl u
theorem map_cl_id : ∀ (l : List TValue), (∀ v ∈ l, okV v = true) → l.map clV = l
  | [], _ => rfl
  | v :: l, h => by rw [List.map_cons, clV_ok (h v (List.mem_cons_self ..)), map_cl_id l (fun x hx => h x (List.mem_cons_of_mem _ hx))]
theorem pub1 (K M : List TValue) (hK : ∀ v ∈ K, okV v = true) (hM : ∀ v ∈ M, okV v = true) (hl : K.length + 1 + M.length ≤ 16) (m c : Int) (hm : 0 ≤ m ∧ m < 1024) (hc : c = 1 ∨ c = 2) :
    pubS 10 (K.length : Int) [⟨(K ++ [intV m]) ++ M, c⟩] = if c = 1 ∧ 10 ≤ m then [⟨K, m - m.tmod 10⟩] else [] := by
  have hok : ∀ v ∈ (K ++ [intV m]) ++ M, okV v = true := by
    intro v hv
    rcases List.mem_append.1 hv with hv | hv
    · rcases List.mem_append.1 hv with hv | hv
      · exact hK v hv
      · rw [List.mem_singleton] at hv; subst hv; exact okV_int (by omega)
    · exact hM v hv
  have hlen : ((K ++ [intV m]) ++ M).length ≤ 16 := by simp; omega
  have hb : bagV [⟨(K ++ [intV m]) ++ M, c⟩] = true := by
    have hr : okRow ((K ++ [intV m]) ++ M) = true := by
      unfold okRow
      rw [decide_eq_true hlen, List.all_eq_true.2 hok]; rfl
    unfold bagV bvF okE
    simp only [hr, bvF]
    rcases hc with rfl | rfl <;> rfl
  unfold pubS
  rw [if_neg (by rw [hb]; simp)]
  have hg : (((K ++ [intV m]) ++ M).getD (K.length : Int).toNat dValue) = intV m := by
    rw [List.getD_eq_getElem?_getD, Int.toNat_natCast, List.getElem?_append_left (by simp), List.getElem?_append_right (Nat.le_refl _)]
    simp
  have ht : ((K ++ [intV m]) ++ M).take (K.length : Int).toNat = K := by
    rw [Int.toNat_natCast, List.append_assoc, List.take_left']; rfl
  rw [List.filterMap_cons, List.filterMap_nil]
  unfold pubE
  simp only [hg, ht, map_cl_id K hK]
  by_cases h : c = 1 ∧ 10 ≤ m
  · rw [if_pos h, if_pos ⟨h.1, by simp; omega, rfl, h.2, by show m ≤ _; omega⟩]; rfl
  · rw [if_neg h, if_neg (fun x => h ⟨x.1, x.2.2.2.1⟩)]
theorem ReleaseKeys_std (x0 : (List TValue)) (x1 : Int) (x2 : (List TValue)) (h0 : (x0.length ≤ maxLen ∧ ∀ e0 ∈ x0, ((Lit.int .i64 e0.f0).wf = true ∧ ((Lit.int .i64 e0.f1).wf = true ∧ e0.f2.size ≤ maxLen)))) (h1 : (Lit.int .i64 x1).wf = true) (h2 : (x2.length ≤ maxLen ∧ ∀ e0 ∈ x2, ((Lit.int .i64 e0.f0).wf = true ∧ ((Lit.int .i64 e0.f1).wf = true ∧ e0.f2.size ≤ maxLen)))) : ∃ k, erasurelaw35_ReleaseKeys k x0 x1 x2 = some true := by
  refine Ev.some (g := fun k => erasurelaw35_ReleaseKeys k x0 x1 x2) ?_
  unfold erasurelaw35_ReleaseKeys
  simp only [decide_eq_true_eq, and1023, beq_iff_eq]
  by_cases c0 : (x0.length : Int) > 7
  · exact Ev.ite_pos c0 (Ev.bind awake_ev (Ev.now _))
  refine Ev.ite_neg c0 ?_
  by_cases c2 : (x2.length : Int) > 7
  · exact Ev.ite_pos c2 (Ev.bind awake_ev (Ev.now _))
  refine Ev.ite_neg c2 (Ev.bind (cleanRow_ev x0 (by omega)) ?_)
  have hm : 0 ≤ x1 % 1024 ∧ x1 % 1024 < 1024 := by omega
  have hK := map_cl_ok x0
  have hM := map_cl_ok x2
  have lK : (x0.map clV).length = x0.length := List.length_map ..
  have lM : (x2.map clV).length = x2.length := List.length_map ..
  simp only [ref01_Int_eq _ (show -4294967296 ≤ x1 % 1024 ∧ x1 % 1024 ≤ 4294967296 by omega), Option.bind_some, List.nil_append]
  refine Ev.ite_pos (by simp only [maxLen, List.length_nil, lK]; omega) (Ev.ite_pos (by simp only [maxLen, List.length_singleton, lK]; omega) (Ev.ite_pos (by simp only [maxLen, List.length_nil, List.length_append, List.length_singleton, lK]; omega) (Ev.bind (cleanRow_ev x2 (by omega)) (Ev.ite_pos (by simp only [maxLen, List.length_append, List.length_singleton, lK, lM]; omega) ?_))))
  generalize hKe : x0.map clV = K at *
  generalize hMe : x2.map clV = M at *
  have hfin : ∀ (row : List TValue) (c : Int), row.length ≤ 16 → Fin [⟨row, c⟩] := fun row c h => ⟨by simp, fun e he => by rw [List.mem_singleton] at he; subst he; show row.length ≤ _; omega⟩
  have p1 := pub1 K [] hK (by simp) (by simp; omega) (x1 % 1024) 1 hm (.inl rfl)
  have p2 := pub1 K M hK hM (by omega) (x1 % 1024) 1 hm (.inl rfl)
  have p3 := pub1 K [] hK (by simp) (by simp; omega) (x1 % 1024) 2 hm (.inr rfl)
  rw [List.append_nil] at p1 p3
  rw [← lK]
  have f1 : Fin [⟨K ++ [intV (x1 % 1024)], 1⟩] := hfin _ _ (by simp; omega)
  have f2 : Fin [⟨K ++ [intV (x1 % 1024)] ++ M, 1⟩] := hfin _ _ (by simp; omega)
  have f3 : Fin [⟨K ++ [intV (x1 % 1024)], 2⟩] := hfin _ _ (by simp; omega)
  have q1 := Publish_ev ⟨⟨#[]⟩, ⟨#[]⟩, 10⟩ (K.length : Int) _ f1
  have q2 := Publish_ev ⟨⟨#[]⟩, ⟨#[]⟩, 10⟩ (K.length : Int) _ f2
  have q3 := Publish_ev ⟨⟨#[]⟩, ⟨#[]⟩, 10⟩ (K.length : Int) _ f3
  refine Ev.bind (q1.to p1) (Ev.bind (q2.to p2) (Ev.bind (q3.to p3) ?_))
  by_cases c : x1 % 1024 < 10
  · refine Ev.ite_pos c ?_
    rw [if_neg (by omega), if_neg (by omega)]
    exact Ev.ite_pos rfl (Ev.ite_pos rfl (Ev.ite_pos rfl (Ev.bind awake_ev (Ev.now _))))
  · refine Ev.ite_neg c ?_
    rw [if_pos (by omega), if_neg (by omega)]
    refine Ev.ite_pos rfl (Ev.ite_pos ⟨by decide, by simp⟩ (Ev.bind (cleanRow_ev x0 (by omega)) ?_))
    rw [hKe]
    have s1 : Ev (fun k => erasureref26_SameRow k K K) true := (ref26_SameRow_ev K K (by omega)).to (by simp)
    have s2 : ∀ u : TPublished, u.f0.length ≤ 16 → Ev (fun k => erasureref35_Same k [u] [u]) true := fun u hu => (Same_ev [u] [u] ⟨by simp, fun e he => by rw [List.mem_singleton] at he; subst he; omega⟩).to (by simp)
    refine Ev.bind s1 (Ev.ite_pos rfl (Ev.bind (s2 _ (by show K.length ≤ 16; omega)) (Ev.ite_pos rfl (Ev.ite_pos rfl (Ev.bind awake_ev (Ev.now _))))))
end Go.Proofs.YtjhnpaenhdbhpaaV
set_option linter.unusedVariables false
set_option linter.unusedSimpArgs false
set_option linter.constructorNameAsVariable false
namespace Go.Proofs.YtjhnpaenhdbhpaaV
open Go Go.RowKit
def RepL (F : Nat → Prop) (w : World) : List AV → List Value → Prop
  | [], [] => True
  | a :: l, v :: m => Rep F w a v ∧ RepL F w l m
  | _, _ => False
theorem RepL.len {F : Nat → Prop} {w : World} : ∀ {l : List AV} {m : List Value}, RepL F w l m → l.length = m.length
  | [], [], _ => rfl
  | _ :: _, _ :: _, h => by simp [RepL.len h.2]
  | [], _ :: _, h => h.elim
  | _ :: _, [], h => h.elim
theorem RepL.get {F : Nat → Prop} {w : World} : ∀ {l : List AV} {m : List Value}, RepL F w l m → ∀ (i : Nat) (v : Value), m[i]? = some v → Rep F w (l.getD i .u) v
  | [], [], _, i, v, h => by simp at h
  | a :: l, u :: m, h, i, v, hv => by
    cases i with
    | zero =>
      simp only [List.getElem?_cons_zero, Option.some.injEq] at hv
      subst hv
      exact h.1
    | succ i => simpa using RepL.get h.2 i v (by simpa using hv)
  | [], _ :: _, h, _, _, _ => h.elim
  | _ :: _, [], h, _, _, _ => h.elim
theorem RepL.app {F : Nat → Prop} {w : World} : ∀ {l : List AV} {m : List Value} {l' : List AV} {m' : List Value}, RepL F w l m → RepL F w l' m' → RepL F w (l ++ l') (m ++ m')
  | [], [], _, _, _, k => k
  | _ :: _, _ :: _, _, _, h, k => ⟨h.1, RepL.app h.2 k⟩
  | [], _ :: _, _, _, h, _ => h.elim
  | _ :: _, [], _, _, h, _ => h.elim
theorem RepL.fv {F : Nat → Prop} {w : World} {κ : Nat → Value} {hp : List Ob} : ∀ {l : List AV} {m : List Value}, RepL F w l m → RelVs ⟨F, w, κ, hp⟩ (l.map .p) m
  | [], [], _ => by simp [RelVs]
  | a :: l, v :: m, h => by simp only [List.map_cons, RelVs]; exact ⟨v, m, rfl, by simp only [RelV]; exact h.1, RepL.fv h.2⟩
  | [], _ :: _, h => h.elim
  | _ :: _, [], h => h.elim
abbrev oldF (W : World) : Nat → Prop := fun b => b < W.heap.size
structure Op1 {α : Type} (P : Program) (t : TypeId) (c : α → List AV) (B : α → Prop) : Prop where mk ::
  out : ∀ {H : Type} (enc : TypeId × Value → H) (W : World) (fuel : Nat) (cs : List Value) (y : DataW H × List MemPlace), DataW.trod enc P W 0 (fun _ => true) true fuel t cs = some y → ∃ x, RepL (oldF W) W (c x) cs ∧ B x
theorem op1_int {P : Program} {t : TypeId} {k : IntKind} (ht : P.underlying t = some (.int k)) : Op1 P t (cI k) (fun n => (Lit.int k n).wf = true) := by
  constructor
  intro H enc W fuel cs y h
  obtain ⟨n, rfl, _, hw⟩ := DataW.trod_int ht h
  exact ⟨n, ⟨rfl, trivial⟩, hw⟩
theorem op1_string {P : Program} {t : TypeId} (ht : P.underlying t = some .string) : Op1 P t cS (fun s => s.size ≤ maxLen) := by
  constructor
  intro H enc W fuel cs y h
  obtain ⟨n, rfl, _, hs⟩ := DataW.trod_string ht h
  exact ⟨n, ⟨rfl, trivial⟩, hs⟩
theorem cell_add {W : World} {a : Addr} {n : Nat} {u : Value} (h : W.cell? (a.add n) = some u) : W.cell? ⟨a.block, a.off + n, none⟩ = some u := by
  unfold Addr.add at h
  split at h
  · rename_i hn
    subst hn
    have hs : a.spot = none := by
      unfold World.cell? at h
      split at h
      · split at h
        · cases h
        · rename_i hs; cases hq : a.spot with
          | none => rfl
          | some x => simp [hq] at hs
      · cases h
    cases a
    simp only at hs
    subst hs
    exact h
  · exact h
theorem spot_none {W : World} {a : Addr} {u : Value} (h : W.cell? a = some u) : a = ⟨a.block, a.off, none⟩ := by
  have hs : a.spot = none := by
    unfold World.cell? at h
    split at h
    · split at h
      · cases h
      · rename_i hs; cases hq : a.spot with
        | none => rfl
        | some x => simp [hq] at hs
    · cases h
  cases a
  simp only at hs
  subst hs
  rfl
theorem op1_slice {α : Type} {P : Program} {t e : TypeId} {sz : Nat} {c : α → List AV} (d : α) {B : α → Prop} (ht : P.underlying t = some (.slice e)) (hd : Op1 P e c B) (hc : P.cellsOf e = sz) (hs : ∀ x, (c x).length = sz) (h0 : 0 < sz) : Op1 P t (cL sz c d) (fun xs => xs.length ≤ maxLen ∧ ∀ x ∈ xs, B x) := by
  constructor
  intro H enc W fuel cs y h
  rcases DataW.trod_slice ht h with ⟨rfl, _⟩ | ⟨a, len, cap, elems, rest, n, _, rfl, _, _, hl, hm, hel, hat, _, _⟩
  · exact ⟨[], ⟨⟨none, 0, rfl, Nat.le_refl _, fun _ => rfl, .inl rfl⟩, trivial⟩, by simp [maxLen], fun x hx => by cases hx⟩
  · have key : ∀ i, i < len → ∃ x cs', cs'.length = sz ∧ RepL (oldF W) W (c x) cs' ∧ B x ∧ ∀ j u, cs'[j]? = some u → W.cell? (a.add (i * sz + j)) = some u := by
      intro i hi
      have h1 := hat i hi
      rw [List.getElem?_eq_getElem (by omega)] at h1
      obtain ⟨cs', h2, h3⟩ := Option.bind_eq_some_iff.1 h1
      obtain ⟨x, hk, hb⟩ := hd.out enc W n cs' _ h3
      have hlen : cs'.length = sz := by rw [← hs x, hk.len]
      refine ⟨x, cs', hlen, hk, hb, fun j u hu => ?_⟩
      rw [hc] at h2
      unfold World.cells? at h2
      rw [if_pos (Nat.zero_le _)] at h2
      have h4 := mapM_some_get h2 j j (by
        have := (List.getElem?_eq_some_iff.1 hu).1
        rw [hlen] at this
        simp [this])
      rw [hu] at h4
      have ha : (a.add (i * sz)).add j = a.add (i * sz + j) := by
        unfold Addr.add
        by_cases e1 : i * sz = 0 <;> by_cases e2 : j = 0 <;> simp [e1, e2, Nat.add_assoc]
      rw [ha] at h4
      exact h4
    have key2 : ∀ m, m ≤ len → ∃ xs : List α, xs.length = m ∧ (∀ x ∈ xs, B x) ∧ ∀ i x, xs[i]? = some x → ∃ cs', cs'.length = sz ∧ RepL (oldF W) W (c x) cs' ∧ ∀ j u, cs'[j]? = some u → W.cell? (a.add (i * sz + j)) = some u := by
      intro m
      induction m with
      | zero => intro _; exact ⟨[], rfl, fun x hx => (by cases hx), fun i x hx => by simp at hx⟩
      | succ m ih =>
        intro hm2
        obtain ⟨xs, h1, h2, h3⟩ := ih (by omega)
        obtain ⟨x, c', h4, h5, h6, h7⟩ := key m (by omega)
        refine ⟨xs ++ [x], by simp [h1], fun y hy => ?_, fun i y hy => ?_⟩
        · rcases List.mem_append.1 hy with hy | hy
          · exact h2 y hy
          · rw [List.mem_singleton.1 hy]; exact h6
        · rcases Nat.lt_or_ge i xs.length with hi | hi
          · rw [List.getElem?_append_left hi] at hy; exact h3 i y hy
          · have hi2 : i = xs.length := by
              have := (List.getElem?_eq_some_iff.1 hy).1
              simp at this
              omega
            subst hi2
            simp at hy
            subst hy
            rw [h1]
            exact ⟨c', h4, h5, h7⟩
    obtain ⟨xs, h1, h2, h3⟩ := key2 len (Nat.le_refl _)
    refine ⟨xs, ⟨⟨some a, cap, by rw [h1], by rw [h1]; omega, fun h => (nomatch h), ?_⟩, trivial⟩, by rw [h1]; simp only [maxLen] at hm ⊢; omega, h2⟩
    rcases Nat.eq_zero_or_pos len with hz | hz
    · left; rw [h1, hz]
    · right
      have hcell : ∀ i, i < len → ∀ j, j < sz → ∃ u, W.cell? (a.add (i * sz + j)) = some u ∧ Rep (oldF W) W ((c (xs.getD i d)).getD j .u) u := by
        intro i hi j hj
        have hxi : xs[i]? = some (xs.getD i d) := by rw [List.getD_eq_getElem?_getD, List.getElem?_eq_getElem (by omega)]; rfl
        obtain ⟨cs', k1, k2, k3⟩ := h3 i _ hxi
        have hcj : cs'[j]? = some (cs'[j]'(by omega)) := List.getElem?_eq_getElem (by omega)
        exact ⟨_, k3 j _ hcj, k2.get j _ hcj⟩
      obtain ⟨u0, hu0, _⟩ := hcell 0 hz 0 h0
      have ha0 : a.add (0 * sz + 0) = a := by simp [Addr.add]
      rw [ha0] at hu0
      refine ⟨a.block, a.off, by rw [← spot_none hu0], World.block_lt_of_cell? W a hu0, fun i hi j hj => ?_⟩
      rw [h1] at hi
      obtain ⟨u, k1, k2⟩ := hcell i hi j hj
      exact ⟨u, cell_add k1, k2⟩
structure OpFs {α : Type} (P : Program) (fs : List Field) (off sz : Nat) (c : α → List AV) (B : α → Prop) : Prop where mk ::
  out : ∀ {H : Type} (enc : TypeId × Value → H) (W : World) (fuel : Nat) (cs : List Value) (ys : List (DataW H × List MemPlace)), cs.length = off + sz → ys.length = fs.length →
    (∀ (i : Nat) (f : Field), fs[i]? = some f → DataW.trod enc P W 0 (fun _ => true) true fuel f.type ((cs.drop f.offset).take (P.cellsOf f.type)) = ys[i]?) → ∃ x, RepL (oldF W) W (c x) (cs.drop off) ∧ B x
theorem opFs_one {α : Type} {P : Program} {f : Field} {off sz : Nat} {c : α → List AV} {B : α → Prop} (ho : f.offset = off) (hc : P.cellsOf f.type = sz) (hd : Op1 P f.type c B) : OpFs P [f] off sz c B := by
  constructor
  intro H enc W fuel cs ys hl hy h
  have h0 := h 0 f rfl
  rw [List.getElem?_eq_getElem (by rw [hy]; exact Nat.zero_lt_one), ho, hc, List.take_of_length_le (by rw [List.length_drop]; omega)] at h0
  exact hd.out enc W fuel _ _ h0
theorem opFs_cons {α β : Type} {P : Program} {f : Field} {fs : List Field} {off sa sb : Nat} {a : α → List AV} {b : β → List AV} {Ba : α → Prop} {Bb : β → Prop} (ho : f.offset = off) (hc : P.cellsOf f.type = sa) (hd : Op1 P f.type a Ba) (hs : OpFs P fs (off + sa) sb b Bb) :
    OpFs P (f :: fs) off (sa + sb) (fun x : α × β => a x.1 ++ b x.2) (fun x => Ba x.1 ∧ Bb x.2) := by
  constructor
  intro H enc W fuel cs ys hl hy h
  cases ys with
  | nil => simp at hy
  | cons y ys =>
    have h0 := h 0 f rfl
    rw [ho, hc] at h0
    obtain ⟨x, hx, hbx⟩ := hd.out enc W fuel _ _ h0
    obtain ⟨z, hz, hbz⟩ := hs.out enc W fuel cs ys (by omega) (by simpa using hy) (fun i g hg => h (i + 1) g hg)
    refine ⟨(x, z), ?_, hbx, hbz⟩
    have e : cs.drop off = (cs.drop off).take sa ++ cs.drop (off + sa) := by rw [← List.drop_drop, List.take_append_drop]
    rw [e]
    exact hx.app hz
theorem op1_struct {α β : Type} {P : Program} {t : TypeId} {fs : Array Field} {sz : Nat} {c : β → List AV} {B : β → Prop} (c' : α → List AV) (B' : α → Prop) (g : β → α) (hc' : ∀ y, c' (g y) = c y) (hB : ∀ y, B y → B' (g y)) (ht : P.underlying t = some (.struct fs)) (hc : P.cellsOf t = sz) (hs : OpFs P fs.toList 0 sz c B) :
    Op1 P t c' B' := by
  constructor
  intro H enc W fuel cs y h
  obtain ⟨xs, n, _, _, hl, hx, hi⟩ := DataW.trod_struct ht h
  obtain ⟨x, hk, hb⟩ := hs.out enc W n cs xs (by rw [hl, hc]; omega) (by rw [hx]; simp) (fun i f hf => hi i f (by simpa using hf))
  refine ⟨g x, ?_, hB x hb⟩
  rw [hc']
  simpa using hk
theorem chg_below {w w' : World} (h : Chg (fun _ => False) w w') : Below w.heap.size w w' := ⟨h.os, h.tape, h.output, h.size, fun k hk => h.block k hk (fun h => h)⟩
theorem Spec.law {P : Program} {f : FuncId} {args : List FV} (h : Spec P f args (.p (.bool true)) []) {W : World} {vs : Array Value} (hv : RelVs ⟨oldF W, W, fun _ => undef, []⟩ args vs.toList) : Calls P f vs W fun e W' => e = .returned (.bool true) ∧ Below W.heap.size W W' := by
  refine (h W (oldF W) (fun _ => undef) vs (fun _ h => h) hv).mono fun e W' ⟨v, F', κ', he, hI, hr⟩ => ⟨?_, chg_below hI.chg⟩
  simp only [RelV, Rep] at hr
  rw [he, hr]
end Go.Proofs.YtjhnpaenhdbhpaaV
