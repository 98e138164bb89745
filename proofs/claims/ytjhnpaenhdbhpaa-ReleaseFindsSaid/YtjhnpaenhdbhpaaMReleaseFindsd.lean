/- Part of the proof of ReleaseFinds: printed by programs of this repo out of the translation, and by hand. Each theorem's conditions stand in its statement. -/
import Derived.WideShapes
import Derived.ProofKit
import Derived.OpenShut
import Derived.ShutString
import Derived.ChangeOld
import Derived.SizedLaws
import Derived.ChangeSlices
import Derived.Orders
import Derived.Below
import Derived.Laws.AppendOwn
import Derived.Laws.OwnMore
import Derived.KernelRfl
import Derived.Test.YtjhnpaenhdbhpaaMReleaseFindsa
import Derived.Test.YtjhnpaenhdbhpaaMReleaseFindsb
import Derived.Test.YtjhnpaenhdbhpaaMReleaseFindsc
set_option linter.unusedVariables false
set_option linter.unusedSimpArgs false
set_option maxRecDepth 100000
namespace Go.Proofs.YtjhnpaenhdbhpaaV
open Go Go.RowKit
noncomputable def erasurelaw35_ReleaseKeys  (k : Nat) (keys0 : (List TValue)) (n1 : Int) (more2 : (List TValue)) : Option Bool := if (decide (((keys0).length : Int) > 7)) = true then ((erasurelaw35_awake k ).bind fun y_2 => (some y_2)) else (if (decide (((more2).length : Int) > 7)) = true then ((erasurelaw35_awake k ).bind fun y_5 => (some y_5)) else ((erasureref26_CleanRow k keys0).bind fun y_7 => (if (([] : List TValue)).length + (y_7).length ≤ maxLen ∧ ((([] : List TValue)).length + (y_7).length) * 32 ≤ 140737488355328 then ((erasureref01_Int k (Go.bits .and .i64 n1 1023)).bind fun y_10 => (if ((([] : List TValue) ++ y_7)).length + ([y_10]).length ≤ maxLen ∧ (((([] : List TValue) ++ y_7)).length + ([y_10]).length) * 32 ≤ 140737488355328 then (if (([] : List TValue)).length + (((([] : List TValue) ++ y_7) ++ ([y_10]))).length ≤ maxLen ∧ ((([] : List TValue)).length + (((([] : List TValue) ++ y_7) ++ ([y_10]))).length) * 32 ≤ 140737488355328 then ((erasureref26_CleanRow k more2).bind fun y_14 => (if ((([] : List TValue) ++ ((([] : List TValue) ++ y_7) ++ ([y_10])))).length + (y_14).length ≤ maxLen ∧ (((([] : List TValue) ++ ((([] : List TValue) ++ y_7) ++ ([y_10])))).length + (y_14).length) * 32 ≤ 140737488355328 then ((release_Publish k (TRelease.mk (⟨#[]⟩ : ByteArray) (⟨#[]⟩ : ByteArray) 10) ((keys0).length : Int) ([(TEntry.mk ((([] : List TValue) ++ y_7) ++ ([y_10])) 1)])).bind fun y_17 => ((release_Publish k (TRelease.mk (⟨#[]⟩ : ByteArray) (⟨#[]⟩ : ByteArray) 10) ((keys0).length : Int) ([(TEntry.mk ((([] : List TValue) ++ ((([] : List TValue) ++ y_7) ++ ([y_10]))) ++ y_14) 1)])).bind fun y_19 => ((release_Publish k (TRelease.mk (⟨#[]⟩ : ByteArray) (⟨#[]⟩ : ByteArray) 10) ((keys0).length : Int) ([(TEntry.mk ((([] : List TValue) ++ y_7) ++ ([y_10])) 2)])).bind fun y_21 => (if (decide ((Go.bits .and .i64 n1 1023) < 10)) = true then (if (((y_17).length : Int) == 0) = true then (if (((y_19).length : Int) == 0) = true then (if (((y_21).length : Int) == 0) = true then ((erasurelaw35_awake k ).bind fun y_27 => (some y_27)) else (some false)) else (some false)) else (some false)) else (if (((y_17).length : Int) == 1) = true then (if 0 ≤ (0 : Int) ∧ (0 : Int) < ((y_17).length : Int) then ((erasureref26_CleanRow k keys0).bind fun y_31 => ((erasureref26_SameRow k ((y_17.getD (0 : Int).toNat dPublished).f0) y_31).bind fun y_33 => (if y_33 = true then ((erasureref35_Same k y_17 y_19).bind fun y_36 => (if y_36 = true then (if (((y_21).length : Int) == 0) = true then ((erasurelaw35_awake k ).bind fun y_40 => (some y_40)) else (some false)) else (some false))) else (some false)))) else none) else (some false)))))) else none)) else none) else none)) else none)))
noncomputable def erasurelaw35_ReleaseKeys.t : List Item := [.code (bodyOf Try.f6)]
noncomputable def erasurelaw35_ReleaseKeys.s (keys0 : (List TValue)) (n1 : Int) (more2 : (List TValue)) : St := ⟨frOf Try.f6.ntmps 0 [(0, .p (eL 3 cValue dValue keys0)), (1, .p (.int .i64 n1)), (2, .p (eL 3 cValue dValue more2))], []⟩
theorem erasurelaw35_ReleaseKeys.run   {k : Nat} {keys0 : (List TValue)} {n1 : Int} {more2 : (List TValue)} {r : Bool} (h : erasurelaw35_ReleaseKeys k keys0 n1 more2 = some r) : RunC Try.prog Try.f6 erasurelaw35_ReleaseKeys.t (erasurelaw35_ReleaseKeys.s keys0 n1 more2) (.p (.bool r)) [] := by
  unfold erasurelaw35_ReleaseKeys at h
  rcases ite_or h with ⟨g_1, h⟩ | ⟨g_1, h⟩
  · obtain ⟨y_2, e_3, h⟩ := bind_or h
    obtain rfl := Option.some.inj h
    exact RunC.out [.n 4, .r [(3, .dec true)], .n 2, .r [(0, .call (.p (.bool y_2)) [])]] (by kernel_rfl) (Obs.of (by kernel_rfl) (And.intro g_1 (erasurelaw35_awake.spec e_3)))
  · rcases ite_or h with ⟨g_4, h⟩ | ⟨g_4, h⟩
    · obtain ⟨y_5, e_6, h⟩ := bind_or h
      obtain rfl := Option.some.inj h
      exact RunC.out [.n 4, .r [(3, .dec false), (7, .dec true)], .n 2, .r [(0, .call (.p (.bool y_5)) [])]] (by kernel_rfl) (Obs.of (by kernel_rfl) (And.intro (nt g_1) (And.intro g_4 (erasurelaw35_awake.spec e_6))))
    · obtain ⟨y_7, e_8, h⟩ := bind_or h
      obtain ⟨g_9, h⟩ := ite_some h
      obtain ⟨y_10, e_11, h⟩ := bind_or h
      obtain ⟨g_12, h⟩ := ite_some h
      obtain ⟨g_13, h⟩ := ite_some h
      obtain ⟨y_14, e_15, h⟩ := bind_or h
      obtain ⟨g_16, h⟩ := ite_some h
      obtain ⟨y_17, e_18, h⟩ := bind_or h
      obtain ⟨y_19, e_20, h⟩ := bind_or h
      obtain ⟨y_21, e_22, h⟩ := bind_or h
      rcases ite_or h with ⟨g_23, h⟩ | ⟨g_23, h⟩
      · rcases ite_or h with ⟨g_24, h⟩ | ⟨g_24, h⟩
        · rcases ite_or h with ⟨g_25, h⟩ | ⟨g_25, h⟩
          · rcases ite_or h with ⟨g_26, h⟩ | ⟨g_26, h⟩
            · obtain ⟨y_27, e_28, h⟩ := bind_or h
              obtain rfl := Option.some.inj h
              exact RunC.out [.n 4, .r [(3, .dec false), (7, .dec false)], .n 3, .r [(0, .obj (oL true 38 3 cValue dValue ([] : List TValue))), (2, .call (.sref 0 38 3 (y_7).length) [(oL true 38 3 cValue dValue y_7)]), (3, .obj (oL true 38 3 cValue dValue (([] : List TValue) ++ y_7))), (6, .call (.agg ((cValue y_10).map .p)) []), (7, .obj (oL true 38 3 cValue dValue [y_10])), (8, .obj (oL true 38 3 cValue dValue ((([] : List TValue) ++ y_7) ++ ([y_10]))))], .n 1, .r [(0, .obj (oL true 38 3 cValue dValue ([] : List TValue))), (2, .obj (oL true 38 3 cValue dValue (([] : List TValue) ++ ((([] : List TValue) ++ y_7) ++ ([y_10]))))), (4, .call (.sref 0 38 3 (y_14).length) [(oL true 38 3 cValue dValue y_14)]), (5, .obj (oL true 38 3 cValue dValue ((([] : List TValue) ++ ((([] : List TValue) ++ y_7) ++ ([y_10]))) ++ y_14)))], .n 3, .r [(5, .obj (oL true 41 2 cEntry dEntry [(TEntry.mk ((([] : List TValue) ++ y_7) ++ ([y_10])) 1)])), (6, .call (.sref 0 43 2 (y_17).length) [(oL true 43 2 cPublished dPublished y_17)])], .n 1, .r [(5, .obj (oL true 41 2 cEntry dEntry [(TEntry.mk ((([] : List TValue) ++ ((([] : List TValue) ++ y_7) ++ ([y_10]))) ++ y_14) 1)])), (6, .call (.sref 0 43 2 (y_19).length) [(oL true 43 2 cPublished dPublished y_19)])], .n 1, .r [(5, .obj (oL true 41 2 cEntry dEntry [(TEntry.mk ((([] : List TValue) ++ y_7) ++ ([y_10])) 2)])), (6, .call (.sref 0 43 2 (y_21).length) [(oL true 43 2 cPublished dPublished y_21)])], .n 2, .r [(2, .dec true)], .n 2, .r [(3, .dec true), (8, .dec true), (13, .dec true), (14, .call (.p (.bool y_27)) [])]] (by kernel_rfl) (Obs.of (by kernel_rfl) (And.intro (nt g_1) (And.intro (nt g_4) (And.intro (le_build0 38 3 cValue dValue) (And.intro (erasureref26_CleanRow.spec e_8) (And.intro (And.intro g_9 (le_app 38 3 cValue dValue ([] : List TValue) y_7)) (And.intro (erasureref01_Int.spec e_11) (And.intro (le_one 38 3 cValue dValue y_10) (And.intro (And.intro g_12 (le_app 38 3 cValue dValue (([] : List TValue) ++ y_7) ([y_10]))) (And.intro (le_build0 38 3 cValue dValue) (And.intro (And.intro g_13 (le_app 38 3 cValue dValue ([] : List TValue) ((([] : List TValue) ++ y_7) ++ ([y_10])))) (And.intro (erasureref26_CleanRow.spec e_15) (And.intro (And.intro g_16 (le_app 38 3 cValue dValue (([] : List TValue) ++ ((([] : List TValue) ++ y_7) ++ ([y_10]))) y_14)) (And.intro (le_one 41 2 cEntry dEntry (TEntry.mk ((([] : List TValue) ++ y_7) ++ ([y_10])) 1)) (And.intro (release_Publish.spec e_18) (And.intro (le_one 41 2 cEntry dEntry (TEntry.mk ((([] : List TValue) ++ ((([] : List TValue) ++ y_7) ++ ([y_10]))) ++ y_14) 1)) (And.intro (release_Publish.spec e_20) (And.intro (le_one 41 2 cEntry dEntry (TEntry.mk ((([] : List TValue) ++ y_7) ++ ([y_10])) 2)) (And.intro (release_Publish.spec e_22) (And.intro g_23 (And.intro g_24 (And.intro g_25 (And.intro g_26 (erasurelaw35_awake.spec e_28))))))))))))))))))))))))
            · obtain rfl := Option.some.inj h
              exact RunC.out [.n 4, .r [(3, .dec false), (7, .dec false)], .n 3, .r [(0, .obj (oL true 38 3 cValue dValue ([] : List TValue))), (2, .call (.sref 0 38 3 (y_7).length) [(oL true 38 3 cValue dValue y_7)]), (3, .obj (oL true 38 3 cValue dValue (([] : List TValue) ++ y_7))), (6, .call (.agg ((cValue y_10).map .p)) []), (7, .obj (oL true 38 3 cValue dValue [y_10])), (8, .obj (oL true 38 3 cValue dValue ((([] : List TValue) ++ y_7) ++ ([y_10]))))], .n 1, .r [(0, .obj (oL true 38 3 cValue dValue ([] : List TValue))), (2, .obj (oL true 38 3 cValue dValue (([] : List TValue) ++ ((([] : List TValue) ++ y_7) ++ ([y_10]))))), (4, .call (.sref 0 38 3 (y_14).length) [(oL true 38 3 cValue dValue y_14)]), (5, .obj (oL true 38 3 cValue dValue ((([] : List TValue) ++ ((([] : List TValue) ++ y_7) ++ ([y_10]))) ++ y_14)))], .n 3, .r [(5, .obj (oL true 41 2 cEntry dEntry [(TEntry.mk ((([] : List TValue) ++ y_7) ++ ([y_10])) 1)])), (6, .call (.sref 0 43 2 (y_17).length) [(oL true 43 2 cPublished dPublished y_17)])], .n 1, .r [(5, .obj (oL true 41 2 cEntry dEntry [(TEntry.mk ((([] : List TValue) ++ ((([] : List TValue) ++ y_7) ++ ([y_10]))) ++ y_14) 1)])), (6, .call (.sref 0 43 2 (y_19).length) [(oL true 43 2 cPublished dPublished y_19)])], .n 1, .r [(5, .obj (oL true 41 2 cEntry dEntry [(TEntry.mk ((([] : List TValue) ++ y_7) ++ ([y_10])) 2)])), (6, .call (.sref 0 43 2 (y_21).length) [(oL true 43 2 cPublished dPublished y_21)])], .n 2, .r [(2, .dec true)], .n 2, .r [(3, .dec true), (8, .dec true), (13, .dec false)]] (by kernel_rfl) (Obs.of (by kernel_rfl) (And.intro (nt g_1) (And.intro (nt g_4) (And.intro (le_build0 38 3 cValue dValue) (And.intro (erasureref26_CleanRow.spec e_8) (And.intro (And.intro g_9 (le_app 38 3 cValue dValue ([] : List TValue) y_7)) (And.intro (erasureref01_Int.spec e_11) (And.intro (le_one 38 3 cValue dValue y_10) (And.intro (And.intro g_12 (le_app 38 3 cValue dValue (([] : List TValue) ++ y_7) ([y_10]))) (And.intro (le_build0 38 3 cValue dValue) (And.intro (And.intro g_13 (le_app 38 3 cValue dValue ([] : List TValue) ((([] : List TValue) ++ y_7) ++ ([y_10])))) (And.intro (erasureref26_CleanRow.spec e_15) (And.intro (And.intro g_16 (le_app 38 3 cValue dValue (([] : List TValue) ++ ((([] : List TValue) ++ y_7) ++ ([y_10]))) y_14)) (And.intro (le_one 41 2 cEntry dEntry (TEntry.mk ((([] : List TValue) ++ y_7) ++ ([y_10])) 1)) (And.intro (release_Publish.spec e_18) (And.intro (le_one 41 2 cEntry dEntry (TEntry.mk ((([] : List TValue) ++ ((([] : List TValue) ++ y_7) ++ ([y_10]))) ++ y_14) 1)) (And.intro (release_Publish.spec e_20) (And.intro (le_one 41 2 cEntry dEntry (TEntry.mk ((([] : List TValue) ++ y_7) ++ ([y_10])) 2)) (And.intro (release_Publish.spec e_22) (And.intro g_23 (And.intro g_24 (And.intro g_25 (nt g_26)))))))))))))))))))))))
          · obtain rfl := Option.some.inj h
            exact RunC.out [.n 4, .r [(3, .dec false), (7, .dec false)], .n 3, .r [(0, .obj (oL true 38 3 cValue dValue ([] : List TValue))), (2, .call (.sref 0 38 3 (y_7).length) [(oL true 38 3 cValue dValue y_7)]), (3, .obj (oL true 38 3 cValue dValue (([] : List TValue) ++ y_7))), (6, .call (.agg ((cValue y_10).map .p)) []), (7, .obj (oL true 38 3 cValue dValue [y_10])), (8, .obj (oL true 38 3 cValue dValue ((([] : List TValue) ++ y_7) ++ ([y_10]))))], .n 1, .r [(0, .obj (oL true 38 3 cValue dValue ([] : List TValue))), (2, .obj (oL true 38 3 cValue dValue (([] : List TValue) ++ ((([] : List TValue) ++ y_7) ++ ([y_10]))))), (4, .call (.sref 0 38 3 (y_14).length) [(oL true 38 3 cValue dValue y_14)]), (5, .obj (oL true 38 3 cValue dValue ((([] : List TValue) ++ ((([] : List TValue) ++ y_7) ++ ([y_10]))) ++ y_14)))], .n 3, .r [(5, .obj (oL true 41 2 cEntry dEntry [(TEntry.mk ((([] : List TValue) ++ y_7) ++ ([y_10])) 1)])), (6, .call (.sref 0 43 2 (y_17).length) [(oL true 43 2 cPublished dPublished y_17)])], .n 1, .r [(5, .obj (oL true 41 2 cEntry dEntry [(TEntry.mk ((([] : List TValue) ++ ((([] : List TValue) ++ y_7) ++ ([y_10]))) ++ y_14) 1)])), (6, .call (.sref 0 43 2 (y_19).length) [(oL true 43 2 cPublished dPublished y_19)])], .n 1, .r [(5, .obj (oL true 41 2 cEntry dEntry [(TEntry.mk ((([] : List TValue) ++ y_7) ++ ([y_10])) 2)])), (6, .call (.sref 0 43 2 (y_21).length) [(oL true 43 2 cPublished dPublished y_21)])], .n 2, .r [(2, .dec true)], .n 2, .r [(3, .dec true), (8, .dec false)]] (by kernel_rfl) (Obs.of (by kernel_rfl) (And.intro (nt g_1) (And.intro (nt g_4) (And.intro (le_build0 38 3 cValue dValue) (And.intro (erasureref26_CleanRow.spec e_8) (And.intro (And.intro g_9 (le_app 38 3 cValue dValue ([] : List TValue) y_7)) (And.intro (erasureref01_Int.spec e_11) (And.intro (le_one 38 3 cValue dValue y_10) (And.intro (And.intro g_12 (le_app 38 3 cValue dValue (([] : List TValue) ++ y_7) ([y_10]))) (And.intro (le_build0 38 3 cValue dValue) (And.intro (And.intro g_13 (le_app 38 3 cValue dValue ([] : List TValue) ((([] : List TValue) ++ y_7) ++ ([y_10])))) (And.intro (erasureref26_CleanRow.spec e_15) (And.intro (And.intro g_16 (le_app 38 3 cValue dValue (([] : List TValue) ++ ((([] : List TValue) ++ y_7) ++ ([y_10]))) y_14)) (And.intro (le_one 41 2 cEntry dEntry (TEntry.mk ((([] : List TValue) ++ y_7) ++ ([y_10])) 1)) (And.intro (release_Publish.spec e_18) (And.intro (le_one 41 2 cEntry dEntry (TEntry.mk ((([] : List TValue) ++ ((([] : List TValue) ++ y_7) ++ ([y_10]))) ++ y_14) 1)) (And.intro (release_Publish.spec e_20) (And.intro (le_one 41 2 cEntry dEntry (TEntry.mk ((([] : List TValue) ++ y_7) ++ ([y_10])) 2)) (And.intro (release_Publish.spec e_22) (And.intro g_23 (And.intro g_24 (nt g_25))))))))))))))))))))))
        · obtain rfl := Option.some.inj h
          exact RunC.out [.n 4, .r [(3, .dec false), (7, .dec false)], .n 3, .r [(0, .obj (oL true 38 3 cValue dValue ([] : List TValue))), (2, .call (.sref 0 38 3 (y_7).length) [(oL true 38 3 cValue dValue y_7)]), (3, .obj (oL true 38 3 cValue dValue (([] : List TValue) ++ y_7))), (6, .call (.agg ((cValue y_10).map .p)) []), (7, .obj (oL true 38 3 cValue dValue [y_10])), (8, .obj (oL true 38 3 cValue dValue ((([] : List TValue) ++ y_7) ++ ([y_10]))))], .n 1, .r [(0, .obj (oL true 38 3 cValue dValue ([] : List TValue))), (2, .obj (oL true 38 3 cValue dValue (([] : List TValue) ++ ((([] : List TValue) ++ y_7) ++ ([y_10]))))), (4, .call (.sref 0 38 3 (y_14).length) [(oL true 38 3 cValue dValue y_14)]), (5, .obj (oL true 38 3 cValue dValue ((([] : List TValue) ++ ((([] : List TValue) ++ y_7) ++ ([y_10]))) ++ y_14)))], .n 3, .r [(5, .obj (oL true 41 2 cEntry dEntry [(TEntry.mk ((([] : List TValue) ++ y_7) ++ ([y_10])) 1)])), (6, .call (.sref 0 43 2 (y_17).length) [(oL true 43 2 cPublished dPublished y_17)])], .n 1, .r [(5, .obj (oL true 41 2 cEntry dEntry [(TEntry.mk ((([] : List TValue) ++ ((([] : List TValue) ++ y_7) ++ ([y_10]))) ++ y_14) 1)])), (6, .call (.sref 0 43 2 (y_19).length) [(oL true 43 2 cPublished dPublished y_19)])], .n 1, .r [(5, .obj (oL true 41 2 cEntry dEntry [(TEntry.mk ((([] : List TValue) ++ y_7) ++ ([y_10])) 2)])), (6, .call (.sref 0 43 2 (y_21).length) [(oL true 43 2 cPublished dPublished y_21)])], .n 2, .r [(2, .dec true)], .n 2, .r [(3, .dec false)]] (by kernel_rfl) (Obs.of (by kernel_rfl) (And.intro (nt g_1) (And.intro (nt g_4) (And.intro (le_build0 38 3 cValue dValue) (And.intro (erasureref26_CleanRow.spec e_8) (And.intro (And.intro g_9 (le_app 38 3 cValue dValue ([] : List TValue) y_7)) (And.intro (erasureref01_Int.spec e_11) (And.intro (le_one 38 3 cValue dValue y_10) (And.intro (And.intro g_12 (le_app 38 3 cValue dValue (([] : List TValue) ++ y_7) ([y_10]))) (And.intro (le_build0 38 3 cValue dValue) (And.intro (And.intro g_13 (le_app 38 3 cValue dValue ([] : List TValue) ((([] : List TValue) ++ y_7) ++ ([y_10])))) (And.intro (erasureref26_CleanRow.spec e_15) (And.intro (And.intro g_16 (le_app 38 3 cValue dValue (([] : List TValue) ++ ((([] : List TValue) ++ y_7) ++ ([y_10]))) y_14)) (And.intro (le_one 41 2 cEntry dEntry (TEntry.mk ((([] : List TValue) ++ y_7) ++ ([y_10])) 1)) (And.intro (release_Publish.spec e_18) (And.intro (le_one 41 2 cEntry dEntry (TEntry.mk ((([] : List TValue) ++ ((([] : List TValue) ++ y_7) ++ ([y_10]))) ++ y_14) 1)) (And.intro (release_Publish.spec e_20) (And.intro (le_one 41 2 cEntry dEntry (TEntry.mk ((([] : List TValue) ++ y_7) ++ ([y_10])) 2)) (And.intro (release_Publish.spec e_22) (And.intro g_23 (nt g_24)))))))))))))))))))))
      · rcases ite_or h with ⟨g_29, h⟩ | ⟨g_29, h⟩
        · obtain ⟨g_30, h⟩ := ite_some h
          obtain ⟨y_31, e_32, h⟩ := bind_or h
          obtain ⟨y_33, e_34, h⟩ := bind_or h
          rcases ite_or h with ⟨g_35, h⟩ | ⟨g_35, h⟩
          · obtain ⟨y_36, e_37, h⟩ := bind_or h
            rcases ite_or h with ⟨g_38, h⟩ | ⟨g_38, h⟩
            · rcases ite_or h with ⟨g_39, h⟩ | ⟨g_39, h⟩
              · obtain ⟨y_40, e_41, h⟩ := bind_or h
                obtain rfl := Option.some.inj h
                exact RunC.out [.n 4, .r [(3, .dec false), (7, .dec false)], .n 3, .r [(0, .obj (oL true 38 3 cValue dValue ([] : List TValue))), (2, .call (.sref 0 38 3 (y_7).length) [(oL true 38 3 cValue dValue y_7)]), (3, .obj (oL true 38 3 cValue dValue (([] : List TValue) ++ y_7))), (6, .call (.agg ((cValue y_10).map .p)) []), (7, .obj (oL true 38 3 cValue dValue [y_10])), (8, .obj (oL true 38 3 cValue dValue ((([] : List TValue) ++ y_7) ++ ([y_10]))))], .n 1, .r [(0, .obj (oL true 38 3 cValue dValue ([] : List TValue))), (2, .obj (oL true 38 3 cValue dValue (([] : List TValue) ++ ((([] : List TValue) ++ y_7) ++ ([y_10]))))), (4, .call (.sref 0 38 3 (y_14).length) [(oL true 38 3 cValue dValue y_14)]), (5, .obj (oL true 38 3 cValue dValue ((([] : List TValue) ++ ((([] : List TValue) ++ y_7) ++ ([y_10]))) ++ y_14)))], .n 3, .r [(5, .obj (oL true 41 2 cEntry dEntry [(TEntry.mk ((([] : List TValue) ++ y_7) ++ ([y_10])) 1)])), (6, .call (.sref 0 43 2 (y_17).length) [(oL true 43 2 cPublished dPublished y_17)])], .n 1, .r [(5, .obj (oL true 41 2 cEntry dEntry [(TEntry.mk ((([] : List TValue) ++ ((([] : List TValue) ++ y_7) ++ ([y_10]))) ++ y_14) 1)])), (6, .call (.sref 0 43 2 (y_19).length) [(oL true 43 2 cPublished dPublished y_19)])], .n 1, .r [(5, .obj (oL true 41 2 cEntry dEntry [(TEntry.mk ((([] : List TValue) ++ y_7) ++ ([y_10])) 2)])), (6, .call (.sref 0 43 2 (y_21).length) [(oL true 43 2 cPublished dPublished y_21)])], .n 2, .r [(2, .dec false)], .n 3, .r [(3, .dec true), (9, .call (.sref 0 38 3 (y_31).length) [(oL true 38 3 cValue dValue y_31)]), (10, .call (.p (.bool y_33)) []), (12, .dec true), (15, .call (.p (.bool y_36)) []), (17, .dec true), (22, .dec true), (23, .call (.p (.bool y_40)) [])]] (by kernel_rfl) (Obs.of (by kernel_rfl) (And.intro (nt g_1) (And.intro (nt g_4) (And.intro (le_build0 38 3 cValue dValue) (And.intro (erasureref26_CleanRow.spec e_8) (And.intro (And.intro g_9 (le_app 38 3 cValue dValue ([] : List TValue) y_7)) (And.intro (erasureref01_Int.spec e_11) (And.intro (le_one 38 3 cValue dValue y_10) (And.intro (And.intro g_12 (le_app 38 3 cValue dValue (([] : List TValue) ++ y_7) ([y_10]))) (And.intro (le_build0 38 3 cValue dValue) (And.intro (And.intro g_13 (le_app 38 3 cValue dValue ([] : List TValue) ((([] : List TValue) ++ y_7) ++ ([y_10])))) (And.intro (erasureref26_CleanRow.spec e_15) (And.intro (And.intro g_16 (le_app 38 3 cValue dValue (([] : List TValue) ++ ((([] : List TValue) ++ y_7) ++ ([y_10]))) y_14)) (And.intro (le_one 41 2 cEntry dEntry (TEntry.mk ((([] : List TValue) ++ y_7) ++ ([y_10])) 1)) (And.intro (release_Publish.spec e_18) (And.intro (le_one 41 2 cEntry dEntry (TEntry.mk ((([] : List TValue) ++ ((([] : List TValue) ++ y_7) ++ ([y_10]))) ++ y_14) 1)) (And.intro (release_Publish.spec e_20) (And.intro (le_one 41 2 cEntry dEntry (TEntry.mk ((([] : List TValue) ++ y_7) ++ ([y_10])) 2)) (And.intro (release_Publish.spec e_22) (And.intro (nt g_23) (And.intro g_29 (And.intro g_30 (And.intro (erasureref26_CleanRow.spec e_32) (And.intro (erasureref26_SameRow.spec e_34) (And.intro g_35 (And.intro (erasureref35_Same.spec e_37) (And.intro g_38 (And.intro g_39 (erasurelaw35_awake.spec e_41)))))))))))))))))))))))))))))
              · obtain rfl := Option.some.inj h
                exact RunC.out [.n 4, .r [(3, .dec false), (7, .dec false)], .n 3, .r [(0, .obj (oL true 38 3 cValue dValue ([] : List TValue))), (2, .call (.sref 0 38 3 (y_7).length) [(oL true 38 3 cValue dValue y_7)]), (3, .obj (oL true 38 3 cValue dValue (([] : List TValue) ++ y_7))), (6, .call (.agg ((cValue y_10).map .p)) []), (7, .obj (oL true 38 3 cValue dValue [y_10])), (8, .obj (oL true 38 3 cValue dValue ((([] : List TValue) ++ y_7) ++ ([y_10]))))], .n 1, .r [(0, .obj (oL true 38 3 cValue dValue ([] : List TValue))), (2, .obj (oL true 38 3 cValue dValue (([] : List TValue) ++ ((([] : List TValue) ++ y_7) ++ ([y_10]))))), (4, .call (.sref 0 38 3 (y_14).length) [(oL true 38 3 cValue dValue y_14)]), (5, .obj (oL true 38 3 cValue dValue ((([] : List TValue) ++ ((([] : List TValue) ++ y_7) ++ ([y_10]))) ++ y_14)))], .n 3, .r [(5, .obj (oL true 41 2 cEntry dEntry [(TEntry.mk ((([] : List TValue) ++ y_7) ++ ([y_10])) 1)])), (6, .call (.sref 0 43 2 (y_17).length) [(oL true 43 2 cPublished dPublished y_17)])], .n 1, .r [(5, .obj (oL true 41 2 cEntry dEntry [(TEntry.mk ((([] : List TValue) ++ ((([] : List TValue) ++ y_7) ++ ([y_10]))) ++ y_14) 1)])), (6, .call (.sref 0 43 2 (y_19).length) [(oL true 43 2 cPublished dPublished y_19)])], .n 1, .r [(5, .obj (oL true 41 2 cEntry dEntry [(TEntry.mk ((([] : List TValue) ++ y_7) ++ ([y_10])) 2)])), (6, .call (.sref 0 43 2 (y_21).length) [(oL true 43 2 cPublished dPublished y_21)])], .n 2, .r [(2, .dec false)], .n 3, .r [(3, .dec true), (9, .call (.sref 0 38 3 (y_31).length) [(oL true 38 3 cValue dValue y_31)]), (10, .call (.p (.bool y_33)) []), (12, .dec true), (15, .call (.p (.bool y_36)) []), (17, .dec true), (22, .dec false)]] (by kernel_rfl) (Obs.of (by kernel_rfl) (And.intro (nt g_1) (And.intro (nt g_4) (And.intro (le_build0 38 3 cValue dValue) (And.intro (erasureref26_CleanRow.spec e_8) (And.intro (And.intro g_9 (le_app 38 3 cValue dValue ([] : List TValue) y_7)) (And.intro (erasureref01_Int.spec e_11) (And.intro (le_one 38 3 cValue dValue y_10) (And.intro (And.intro g_12 (le_app 38 3 cValue dValue (([] : List TValue) ++ y_7) ([y_10]))) (And.intro (le_build0 38 3 cValue dValue) (And.intro (And.intro g_13 (le_app 38 3 cValue dValue ([] : List TValue) ((([] : List TValue) ++ y_7) ++ ([y_10])))) (And.intro (erasureref26_CleanRow.spec e_15) (And.intro (And.intro g_16 (le_app 38 3 cValue dValue (([] : List TValue) ++ ((([] : List TValue) ++ y_7) ++ ([y_10]))) y_14)) (And.intro (le_one 41 2 cEntry dEntry (TEntry.mk ((([] : List TValue) ++ y_7) ++ ([y_10])) 1)) (And.intro (release_Publish.spec e_18) (And.intro (le_one 41 2 cEntry dEntry (TEntry.mk ((([] : List TValue) ++ ((([] : List TValue) ++ y_7) ++ ([y_10]))) ++ y_14) 1)) (And.intro (release_Publish.spec e_20) (And.intro (le_one 41 2 cEntry dEntry (TEntry.mk ((([] : List TValue) ++ y_7) ++ ([y_10])) 2)) (And.intro (release_Publish.spec e_22) (And.intro (nt g_23) (And.intro g_29 (And.intro g_30 (And.intro (erasureref26_CleanRow.spec e_32) (And.intro (erasureref26_SameRow.spec e_34) (And.intro g_35 (And.intro (erasureref35_Same.spec e_37) (And.intro g_38 (nt g_39))))))))))))))))))))))))))))
            · obtain rfl := Option.some.inj h
              exact RunC.out [.n 4, .r [(3, .dec false), (7, .dec false)], .n 3, .r [(0, .obj (oL true 38 3 cValue dValue ([] : List TValue))), (2, .call (.sref 0 38 3 (y_7).length) [(oL true 38 3 cValue dValue y_7)]), (3, .obj (oL true 38 3 cValue dValue (([] : List TValue) ++ y_7))), (6, .call (.agg ((cValue y_10).map .p)) []), (7, .obj (oL true 38 3 cValue dValue [y_10])), (8, .obj (oL true 38 3 cValue dValue ((([] : List TValue) ++ y_7) ++ ([y_10]))))], .n 1, .r [(0, .obj (oL true 38 3 cValue dValue ([] : List TValue))), (2, .obj (oL true 38 3 cValue dValue (([] : List TValue) ++ ((([] : List TValue) ++ y_7) ++ ([y_10]))))), (4, .call (.sref 0 38 3 (y_14).length) [(oL true 38 3 cValue dValue y_14)]), (5, .obj (oL true 38 3 cValue dValue ((([] : List TValue) ++ ((([] : List TValue) ++ y_7) ++ ([y_10]))) ++ y_14)))], .n 3, .r [(5, .obj (oL true 41 2 cEntry dEntry [(TEntry.mk ((([] : List TValue) ++ y_7) ++ ([y_10])) 1)])), (6, .call (.sref 0 43 2 (y_17).length) [(oL true 43 2 cPublished dPublished y_17)])], .n 1, .r [(5, .obj (oL true 41 2 cEntry dEntry [(TEntry.mk ((([] : List TValue) ++ ((([] : List TValue) ++ y_7) ++ ([y_10]))) ++ y_14) 1)])), (6, .call (.sref 0 43 2 (y_19).length) [(oL true 43 2 cPublished dPublished y_19)])], .n 1, .r [(5, .obj (oL true 41 2 cEntry dEntry [(TEntry.mk ((([] : List TValue) ++ y_7) ++ ([y_10])) 2)])), (6, .call (.sref 0 43 2 (y_21).length) [(oL true 43 2 cPublished dPublished y_21)])], .n 2, .r [(2, .dec false)], .n 3, .r [(3, .dec true), (9, .call (.sref 0 38 3 (y_31).length) [(oL true 38 3 cValue dValue y_31)]), (10, .call (.p (.bool y_33)) []), (12, .dec true), (15, .call (.p (.bool y_36)) []), (17, .dec false)]] (by kernel_rfl) (Obs.of (by kernel_rfl) (And.intro (nt g_1) (And.intro (nt g_4) (And.intro (le_build0 38 3 cValue dValue) (And.intro (erasureref26_CleanRow.spec e_8) (And.intro (And.intro g_9 (le_app 38 3 cValue dValue ([] : List TValue) y_7)) (And.intro (erasureref01_Int.spec e_11) (And.intro (le_one 38 3 cValue dValue y_10) (And.intro (And.intro g_12 (le_app 38 3 cValue dValue (([] : List TValue) ++ y_7) ([y_10]))) (And.intro (le_build0 38 3 cValue dValue) (And.intro (And.intro g_13 (le_app 38 3 cValue dValue ([] : List TValue) ((([] : List TValue) ++ y_7) ++ ([y_10])))) (And.intro (erasureref26_CleanRow.spec e_15) (And.intro (And.intro g_16 (le_app 38 3 cValue dValue (([] : List TValue) ++ ((([] : List TValue) ++ y_7) ++ ([y_10]))) y_14)) (And.intro (le_one 41 2 cEntry dEntry (TEntry.mk ((([] : List TValue) ++ y_7) ++ ([y_10])) 1)) (And.intro (release_Publish.spec e_18) (And.intro (le_one 41 2 cEntry dEntry (TEntry.mk ((([] : List TValue) ++ ((([] : List TValue) ++ y_7) ++ ([y_10]))) ++ y_14) 1)) (And.intro (release_Publish.spec e_20) (And.intro (le_one 41 2 cEntry dEntry (TEntry.mk ((([] : List TValue) ++ y_7) ++ ([y_10])) 2)) (And.intro (release_Publish.spec e_22) (And.intro (nt g_23) (And.intro g_29 (And.intro g_30 (And.intro (erasureref26_CleanRow.spec e_32) (And.intro (erasureref26_SameRow.spec e_34) (And.intro g_35 (And.intro (erasureref35_Same.spec e_37) (nt g_38)))))))))))))))))))))))))))
          · obtain rfl := Option.some.inj h
            exact RunC.out [.n 4, .r [(3, .dec false), (7, .dec false)], .n 3, .r [(0, .obj (oL true 38 3 cValue dValue ([] : List TValue))), (2, .call (.sref 0 38 3 (y_7).length) [(oL true 38 3 cValue dValue y_7)]), (3, .obj (oL true 38 3 cValue dValue (([] : List TValue) ++ y_7))), (6, .call (.agg ((cValue y_10).map .p)) []), (7, .obj (oL true 38 3 cValue dValue [y_10])), (8, .obj (oL true 38 3 cValue dValue ((([] : List TValue) ++ y_7) ++ ([y_10]))))], .n 1, .r [(0, .obj (oL true 38 3 cValue dValue ([] : List TValue))), (2, .obj (oL true 38 3 cValue dValue (([] : List TValue) ++ ((([] : List TValue) ++ y_7) ++ ([y_10]))))), (4, .call (.sref 0 38 3 (y_14).length) [(oL true 38 3 cValue dValue y_14)]), (5, .obj (oL true 38 3 cValue dValue ((([] : List TValue) ++ ((([] : List TValue) ++ y_7) ++ ([y_10]))) ++ y_14)))], .n 3, .r [(5, .obj (oL true 41 2 cEntry dEntry [(TEntry.mk ((([] : List TValue) ++ y_7) ++ ([y_10])) 1)])), (6, .call (.sref 0 43 2 (y_17).length) [(oL true 43 2 cPublished dPublished y_17)])], .n 1, .r [(5, .obj (oL true 41 2 cEntry dEntry [(TEntry.mk ((([] : List TValue) ++ ((([] : List TValue) ++ y_7) ++ ([y_10]))) ++ y_14) 1)])), (6, .call (.sref 0 43 2 (y_19).length) [(oL true 43 2 cPublished dPublished y_19)])], .n 1, .r [(5, .obj (oL true 41 2 cEntry dEntry [(TEntry.mk ((([] : List TValue) ++ y_7) ++ ([y_10])) 2)])), (6, .call (.sref 0 43 2 (y_21).length) [(oL true 43 2 cPublished dPublished y_21)])], .n 2, .r [(2, .dec false)], .n 3, .r [(3, .dec true), (9, .call (.sref 0 38 3 (y_31).length) [(oL true 38 3 cValue dValue y_31)]), (10, .call (.p (.bool y_33)) []), (12, .dec false)]] (by kernel_rfl) (Obs.of (by kernel_rfl) (And.intro (nt g_1) (And.intro (nt g_4) (And.intro (le_build0 38 3 cValue dValue) (And.intro (erasureref26_CleanRow.spec e_8) (And.intro (And.intro g_9 (le_app 38 3 cValue dValue ([] : List TValue) y_7)) (And.intro (erasureref01_Int.spec e_11) (And.intro (le_one 38 3 cValue dValue y_10) (And.intro (And.intro g_12 (le_app 38 3 cValue dValue (([] : List TValue) ++ y_7) ([y_10]))) (And.intro (le_build0 38 3 cValue dValue) (And.intro (And.intro g_13 (le_app 38 3 cValue dValue ([] : List TValue) ((([] : List TValue) ++ y_7) ++ ([y_10])))) (And.intro (erasureref26_CleanRow.spec e_15) (And.intro (And.intro g_16 (le_app 38 3 cValue dValue (([] : List TValue) ++ ((([] : List TValue) ++ y_7) ++ ([y_10]))) y_14)) (And.intro (le_one 41 2 cEntry dEntry (TEntry.mk ((([] : List TValue) ++ y_7) ++ ([y_10])) 1)) (And.intro (release_Publish.spec e_18) (And.intro (le_one 41 2 cEntry dEntry (TEntry.mk ((([] : List TValue) ++ ((([] : List TValue) ++ y_7) ++ ([y_10]))) ++ y_14) 1)) (And.intro (release_Publish.spec e_20) (And.intro (le_one 41 2 cEntry dEntry (TEntry.mk ((([] : List TValue) ++ y_7) ++ ([y_10])) 2)) (And.intro (release_Publish.spec e_22) (And.intro (nt g_23) (And.intro g_29 (And.intro g_30 (And.intro (erasureref26_CleanRow.spec e_32) (And.intro (erasureref26_SameRow.spec e_34) (nt g_35)))))))))))))))))))))))))
        · obtain rfl := Option.some.inj h
          exact RunC.out [.n 4, .r [(3, .dec false), (7, .dec false)], .n 3, .r [(0, .obj (oL true 38 3 cValue dValue ([] : List TValue))), (2, .call (.sref 0 38 3 (y_7).length) [(oL true 38 3 cValue dValue y_7)]), (3, .obj (oL true 38 3 cValue dValue (([] : List TValue) ++ y_7))), (6, .call (.agg ((cValue y_10).map .p)) []), (7, .obj (oL true 38 3 cValue dValue [y_10])), (8, .obj (oL true 38 3 cValue dValue ((([] : List TValue) ++ y_7) ++ ([y_10]))))], .n 1, .r [(0, .obj (oL true 38 3 cValue dValue ([] : List TValue))), (2, .obj (oL true 38 3 cValue dValue (([] : List TValue) ++ ((([] : List TValue) ++ y_7) ++ ([y_10]))))), (4, .call (.sref 0 38 3 (y_14).length) [(oL true 38 3 cValue dValue y_14)]), (5, .obj (oL true 38 3 cValue dValue ((([] : List TValue) ++ ((([] : List TValue) ++ y_7) ++ ([y_10]))) ++ y_14)))], .n 3, .r [(5, .obj (oL true 41 2 cEntry dEntry [(TEntry.mk ((([] : List TValue) ++ y_7) ++ ([y_10])) 1)])), (6, .call (.sref 0 43 2 (y_17).length) [(oL true 43 2 cPublished dPublished y_17)])], .n 1, .r [(5, .obj (oL true 41 2 cEntry dEntry [(TEntry.mk ((([] : List TValue) ++ ((([] : List TValue) ++ y_7) ++ ([y_10]))) ++ y_14) 1)])), (6, .call (.sref 0 43 2 (y_19).length) [(oL true 43 2 cPublished dPublished y_19)])], .n 1, .r [(5, .obj (oL true 41 2 cEntry dEntry [(TEntry.mk ((([] : List TValue) ++ y_7) ++ ([y_10])) 2)])), (6, .call (.sref 0 43 2 (y_21).length) [(oL true 43 2 cPublished dPublished y_21)])], .n 2, .r [(2, .dec false)], .n 3, .r [(3, .dec false)]] (by kernel_rfl) (Obs.of (by kernel_rfl) (And.intro (nt g_1) (And.intro (nt g_4) (And.intro (le_build0 38 3 cValue dValue) (And.intro (erasureref26_CleanRow.spec e_8) (And.intro (And.intro g_9 (le_app 38 3 cValue dValue ([] : List TValue) y_7)) (And.intro (erasureref01_Int.spec e_11) (And.intro (le_one 38 3 cValue dValue y_10) (And.intro (And.intro g_12 (le_app 38 3 cValue dValue (([] : List TValue) ++ y_7) ([y_10]))) (And.intro (le_build0 38 3 cValue dValue) (And.intro (And.intro g_13 (le_app 38 3 cValue dValue ([] : List TValue) ((([] : List TValue) ++ y_7) ++ ([y_10])))) (And.intro (erasureref26_CleanRow.spec e_15) (And.intro (And.intro g_16 (le_app 38 3 cValue dValue (([] : List TValue) ++ ((([] : List TValue) ++ y_7) ++ ([y_10]))) y_14)) (And.intro (le_one 41 2 cEntry dEntry (TEntry.mk ((([] : List TValue) ++ y_7) ++ ([y_10])) 1)) (And.intro (release_Publish.spec e_18) (And.intro (le_one 41 2 cEntry dEntry (TEntry.mk ((([] : List TValue) ++ ((([] : List TValue) ++ y_7) ++ ([y_10]))) ++ y_14) 1)) (And.intro (release_Publish.spec e_20) (And.intro (le_one 41 2 cEntry dEntry (TEntry.mk ((([] : List TValue) ++ y_7) ++ ([y_10])) 2)) (And.intro (release_Publish.spec e_22) (And.intro (nt g_23) (nt g_29)))))))))))))))))))))
theorem erasurelaw35_ReleaseKeys.mono   : ∀ (k k' : Nat) (keys0 : (List TValue)) (n1 : Int) (more2 : (List TValue)) (r : Bool), k ≤ k' → erasurelaw35_ReleaseKeys k keys0 n1 more2 = some r → erasurelaw35_ReleaseKeys k' keys0 n1 more2 = some r := by
  intro k k' keys0 n1 more2 r hk h
  unfold erasurelaw35_ReleaseKeys at h ⊢
  rcases ite_or h with ⟨g_1, h⟩ | ⟨g_1, h⟩
  · refine itp g_1 ?_
    obtain ⟨y_2, e_3, h⟩ := bind_or h
    refine bnd (erasurelaw35_awake.mono _ _  _ hk e_3) ?_
    exact h
  · refine itn g_1 ?_
    rcases ite_or h with ⟨g_4, h⟩ | ⟨g_4, h⟩
    · refine itp g_4 ?_
      obtain ⟨y_5, e_6, h⟩ := bind_or h
      refine bnd (erasurelaw35_awake.mono _ _  _ hk e_6) ?_
      exact h
    · refine itn g_4 ?_
      obtain ⟨y_7, e_8, h⟩ := bind_or h
      refine bnd (erasureref26_CleanRow.mono _ _ _ _ hk e_8) ?_
      obtain ⟨g_9, h⟩ := ite_some h
      refine itp g_9 ?_
      obtain ⟨y_10, e_11, h⟩ := bind_or h
      refine bnd (erasureref01_Int.mono _ _ _ _ hk e_11) ?_
      obtain ⟨g_12, h⟩ := ite_some h
      refine itp g_12 ?_
      obtain ⟨g_13, h⟩ := ite_some h
      refine itp g_13 ?_
      obtain ⟨y_14, e_15, h⟩ := bind_or h
      refine bnd (erasureref26_CleanRow.mono _ _ _ _ hk e_15) ?_
      obtain ⟨g_16, h⟩ := ite_some h
      refine itp g_16 ?_
      obtain ⟨y_17, e_18, h⟩ := bind_or h
      refine bnd (release_Publish.mono _ _ _ _ _ _ hk e_18) ?_
      obtain ⟨y_19, e_20, h⟩ := bind_or h
      refine bnd (release_Publish.mono _ _ _ _ _ _ hk e_20) ?_
      obtain ⟨y_21, e_22, h⟩ := bind_or h
      refine bnd (release_Publish.mono _ _ _ _ _ _ hk e_22) ?_
      rcases ite_or h with ⟨g_23, h⟩ | ⟨g_23, h⟩
      · refine itp g_23 ?_
        rcases ite_or h with ⟨g_24, h⟩ | ⟨g_24, h⟩
        · refine itp g_24 ?_
          rcases ite_or h with ⟨g_25, h⟩ | ⟨g_25, h⟩
          · refine itp g_25 ?_
            rcases ite_or h with ⟨g_26, h⟩ | ⟨g_26, h⟩
            · refine itp g_26 ?_
              obtain ⟨y_27, e_28, h⟩ := bind_or h
              refine bnd (erasurelaw35_awake.mono _ _  _ hk e_28) ?_
              exact h
            · refine itn g_26 ?_
              exact h
          · refine itn g_25 ?_
            exact h
        · refine itn g_24 ?_
          exact h
      · refine itn g_23 ?_
        rcases ite_or h with ⟨g_29, h⟩ | ⟨g_29, h⟩
        · refine itp g_29 ?_
          obtain ⟨g_30, h⟩ := ite_some h
          refine itp g_30 ?_
          obtain ⟨y_31, e_32, h⟩ := bind_or h
          refine bnd (erasureref26_CleanRow.mono _ _ _ _ hk e_32) ?_
          obtain ⟨y_33, e_34, h⟩ := bind_or h
          refine bnd (erasureref26_SameRow.mono _ _ _ _ _ hk e_34) ?_
          rcases ite_or h with ⟨g_35, h⟩ | ⟨g_35, h⟩
          · refine itp g_35 ?_
            obtain ⟨y_36, e_37, h⟩ := bind_or h
            refine bnd (erasureref35_Same.mono _ _ _ _ _ hk e_37) ?_
            rcases ite_or h with ⟨g_38, h⟩ | ⟨g_38, h⟩
            · refine itp g_38 ?_
              rcases ite_or h with ⟨g_39, h⟩ | ⟨g_39, h⟩
              · refine itp g_39 ?_
                obtain ⟨y_40, e_41, h⟩ := bind_or h
                refine bnd (erasurelaw35_awake.mono _ _  _ hk e_41) ?_
                exact h
              · refine itn g_39 ?_
                exact h
            · refine itn g_38 ?_
              exact h
          · refine itn g_35 ?_
            exact h
        · refine itn g_29 ?_
          exact h
theorem erasurelaw35_ReleaseKeys.spec {k : Nat} {keys0 : (List TValue)} {n1 : Int} {more2 : (List TValue)} {r : Bool} (h : erasurelaw35_ReleaseKeys k keys0 n1 more2 = some r) : Spec Try.prog 6 [.p (eL 3 cValue dValue keys0), .p (.int .i64 n1), .p (eL 3 cValue dValue more2)] (.p (.bool r)) [] :=
  spec_of mix Try.func6 (body := bodyOf Try.f6) (by kernel_rfl) (by kernel_rfl) (erasurelaw35_ReleaseKeys.run h)
end Go.Proofs.YtjhnpaenhdbhpaaV
set_option linter.unusedVariables false
set_option linter.unusedSimpArgs false
namespace Go.Proofs.YtjhnpaenhdbhpaaV
open Go Go.RowKit
theorem cleanRow_ev (l : List TValue) (hl : l.length ≤ 1099511627776) : Ev (fun k => erasureref26_CleanRow k l) (l.map clV) := by
  unfold erasureref26_CleanRow
  have key : ∀ i, i ≤ l.length → ∀ acc : List TValue, acc.length = i → Ev (fun k => erasureref26_CleanRow.p1 k l (i : Int) acc) (acc ++ (l.drop i).map clV) := by
    refine loop_down (P := fun i => ∀ acc : List TValue, acc.length = i → Ev (fun k => erasureref26_CleanRow.p1 k l (i : Int) acc) (acc ++ (l.drop i).map clV)) l.length ?_ ?_
    · intro acc _
      refine Ev.succ ?_
      simp only [erasureref26_CleanRow.p1, decide_eq_true_eq]
      rw [List.drop_length]
      exact Ev.ite_neg (by omega) (Ev.done (by simp))
    · intro i hi ih acc ha
      refine Ev.succ ?_
      simp only [erasureref26_CleanRow.p1, ref01_Clean_eq, Option.bind_some, decide_eq_true_eq]
      refine Ev.ite_pos (by omega) (Ev.ite_pos (by omega) (Ev.ite_pos (by simp only [maxLen, List.length_singleton]; omega) ?_))
      rw [dV hi, wrn hi (by omega), List.map_cons]
      exact (ih (acc ++ [clV (l.getD (i : Int).toNat dValue)]) (by simp [ha])).to (by simp)
  exact key 0 (by omega) [] rfl
end Go.Proofs.YtjhnpaenhdbhpaaV
set_option linter.unusedVariables false
set_option linter.unusedSimpArgs false
namespace Go.Proofs.YtjhnpaenhdbhpaaV
open Go Go.RowKit
def keyU (u : TPublished) : List TValue := u.f0.map clV
def fU : List TPublished → List TValue → Int × Bool
  | [], _ => (0, false)
  | u :: l, c => if keyU u = c then (u.f1, true) else fU l c
theorem Find_ev (l : List TPublished) (keys : List TValue) (hl : FinU l) : Ev (fun k => release_Find k l keys) (fU l (keys.map clV)) := by
  unfold release_Find
  refine (loop_down (P := fun i => Ev (fun k => release_Find.p1 k l keys (i : Int)) (fU (l.drop i) (keys.map clV))) l.length ?_ ?_ 0 (by omega))
  · refine Ev.succ ?_
    simp only [release_Find.p1, decide_eq_true_eq]
    rw [List.drop_length]
    exact Ev.ite_neg (by omega) (Ev.now _)
  · intro i hi ih
    refine Ev.succ ?_
    simp only [release_Find.p1, decide_eq_true_eq, beq_iff_eq, cmpR_zero]
    refine Ev.ite_pos (by omega) (Ev.ite_pos (by omega) (Ev.bind (value_CompareRows_ev _ _ (hl.2 _ (getD_mem dPublished hi))) ?_))
    rw [dU hi, wrn hi hl.1]
    unfold fU keyU
    by_cases h : cmpR (l.getD (i : Int).toNat dPublished).f0 keys = 0
    · rw [if_pos (cmpR_zero.1 h)]; exact Ev.ite_pos h (Ev.now _)
    · rw [if_neg (fun e => h (cmpR_zero.2 e))]; exact Ev.ite_neg h ih
theorem refFind_ev (l : List TPublished) (keys : List TValue) (hl : FinU l) : Ev (fun k => erasureref35_Find k l keys) (fU l (keys.map clV)) := by
  unfold erasureref35_Find
  refine (loop_down (P := fun i => Ev (fun k => erasureref35_Find.p1 k l keys (i : Int)) (fU (l.drop i) (keys.map clV))) l.length ?_ ?_ 0 (by omega))
  · refine Ev.succ ?_
    simp only [erasureref35_Find.p1, decide_eq_true_eq]
    rw [List.drop_length]
    exact Ev.ite_neg (by omega) (Ev.now _)
  · intro i hi ih
    refine Ev.succ ?_
    simp only [erasureref35_Find.p1, decide_eq_true_eq, beq_iff_eq]
    refine Ev.ite_pos (by omega) (Ev.ite_pos (by omega) (Ev.bind (ref01_CompareRows_ev _ _ (hl.2 _ (getD_mem dPublished hi))) ?_))
    rw [dU hi, wrn hi hl.1]
    unfold fU keyU
    by_cases h : cmpR (l.getD (i : Int).toNat dPublished).f0 keys = 0
    · rw [if_pos (cmpR_zero.1 h)]; exact Ev.ite_pos h (Ev.now _)
    · rw [if_neg (fun e => h (cmpR_zero.2 e))]; exact Ev.ite_neg h ih
def totF : List TPublished → Int → Int
  | [], n => n
  | u :: l, n => totF l (IntKind.i64.wrap (n + u.f1))
theorem Total_ev (l : List TPublished) (hl : FinU l) : Ev (fun k => release_Total k l) (totF l 0) := by
  unfold release_Total
  refine (loop_down (P := fun i => ∀ n : Int, Ev (fun k => release_Total.p1 k l n (i : Int)) (totF (l.drop i) n)) l.length ?_ ?_ 0 (by omega)) 0
  · intro n
    refine Ev.succ ?_
    simp only [release_Total.p1, decide_eq_true_eq]
    rw [List.drop_length]
    exact Ev.ite_neg (by omega) (Ev.now _)
  · intro i hi ih n
    refine Ev.succ ?_
    simp only [release_Total.p1, decide_eq_true_eq]
    rw [dU hi, wrn hi hl.1]
    exact Ev.ite_pos (by omega) (Ev.ite_pos (by omega) (ih _))
theorem refTotal_ev (l : List TPublished) (hl : FinU l) : Ev (fun k => erasureref35_Total k l) (totF l 0) := by
  unfold erasureref35_Total
  refine (loop_down (P := fun i => ∀ n : Int, Ev (fun k => erasureref35_Total.p1 k l n (i : Int)) (totF (l.drop i) n)) l.length ?_ ?_ 0 (by omega)) 0
  · intro n
    refine Ev.succ ?_
    simp only [erasureref35_Total.p1, decide_eq_true_eq]
    rw [List.drop_length]
    exact Ev.ite_neg (by omega) (Ev.now _)
  · intro i hi ih n
    refine Ev.succ ?_
    simp only [erasureref35_Total.p1, decide_eq_true_eq]
    rw [dU hi, wrn hi hl.1]
    exact Ev.ite_pos (by omega) (Ev.ite_pos (by omega) (ih _))
def clnR (c : List TValue) : Prop := c.map clV = c
theorem clnR_key (u : TPublished) : clnR (keyU u) := by
  unfold clnR keyU
  rw [List.map_map]
  exact List.map_congr_left fun x _ => clV_ok (okV_cl x)
theorem cmpR_cln {a b : List TValue} (ha : clnR a) (hb : clnR b) : cmpR a b = 0 ↔ a = b := by rw [cmpR_zero, ha, hb]
def insR (c : List TValue) : List (List TValue) → List (List TValue)
  | [] => [c]
  | x :: l => if cmpR x c < 0 then x :: insR c l else c :: x :: l
def srtR (K : List (List TValue)) : List (List TValue) := K.foldr insR []
theorem insR_perm (c : List TValue) : ∀ l, (insR c l).Perm (c :: l)
  | [] => List.Perm.refl _
  | x :: l => by
    unfold insR
    split
    · exact ((insR_perm c l).cons x).trans (List.Perm.swap c x l)
    · exact List.Perm.refl _
theorem srtR_perm : ∀ K, (srtR K).Perm K
  | [] => List.Perm.refl _
  | c :: K => (insR_perm c _).trans ((srtR_perm K).cons c)
def LeRs (l : List (List TValue)) : Prop := l.Pairwise fun a b => ¬ cmpR b a < 0
theorem insR_le (c : List TValue) : ∀ l, LeRs l → LeRs (insR c l)
  | [], _ => List.pairwise_singleton _ _
  | x :: l, h => by
    have h1 := List.pairwise_cons.1 h
    have s := cmpR_swap x c
    unfold insR
    split
    · rename_i hc
      refine List.pairwise_cons.2 ⟨fun z hz => ?_, insR_le c l h1.2⟩
      rcases List.mem_cons.1 ((insR_perm c l).mem_iff.1 hz) with rfl | hz
      · omega
      · exact h1.1 z hz
    · rename_i hc
      refine List.pairwise_cons.2 ⟨fun z hz => ?_, h⟩
      rcases List.mem_cons.1 hz with rfl | hz
      · exact hc
      · exact cmpR_le_trans (h1.1 z hz) hc
theorem srtR_le : ∀ K, LeRs (srtR K)
  | [] => List.Pairwise.nil
  | c :: K => insR_le c _ (srtR_le K)
theorem cmpR_okS {xs : List (List TValue)} (h : ∀ x ∈ xs, clnR x) : CmpOK cmpR xs where
  irrefl x _ := by rw [cmpR_self]; omega
  trans x _ y _ z _ h1 h2 := cmpR_trans h1 h2
  ntrans x _ y _ z _ h1 h2 := cmpR_le_trans h1 h2
  anti x hx y hy h1 h2 := by
    have s := cmpR_swap x y
    exact (cmpR_cln (h x hx) (h y hy)).1 (by omega)
theorem sort_rows {xs : List (List TValue)} (h : ∀ x ∈ xs, clnR x) (hf : ∀ x ∈ xs, x.length ≤ 9223372036854775807) (hl : xs.length ≤ 1099511627776) : sortC (fun k x y => value_CompareRows k x y) xs = some (srtR xs) := by
  refine sortC_eq (fun x y k k' r hk h => value_CompareRows.mono k k' x y r hk h) ⟨⟨cmpR, fun x hx y _ => ?_, cmpR_okS h, srtR_perm xs, srtR_le xs, by omega⟩⟩
  obtain ⟨K, hK⟩ := value_CompareRows_ev x y (hf x hx)
  exact ⟨K, hK K (Nat.le_refl _)⟩
def dedR : Option (List TValue) → List (List TValue) → List (List TValue)
  | _, [] => []
  | p, c :: l => if p = some c then dedR (some c) l else c :: dedR (some c) l
theorem dedR_mem {x : List TValue} : ∀ (l : List (List TValue)) (p : Option (List TValue)), LeRs l → (∀ c ∈ l, clnR c) → (∀ q, p = some q → clnR q ∧ ∀ c ∈ l, ¬ cmpR c q < 0) → (x ∈ dedR p l ↔ x ∈ l ∧ p ≠ some x)
  | [], p, _, _, _ => by simp [dedR]
  | c :: l, p, h, hc, hp => by
    have h1 := List.pairwise_cons.1 h
    have cc := hc c (List.mem_cons_self ..)
    have ih := dedR_mem (x := x) l (some c) h1.2 (fun y hy => hc y (List.mem_cons_of_mem _ hy)) (fun q hq => by cases hq; exact ⟨cc, h1.1⟩)
    unfold dedR
    by_cases e : p = some c
    · rw [if_pos e, ih, e]
      simp only [List.mem_cons, ne_eq, Option.some.injEq]
      exact ⟨fun q => ⟨Or.inr q.1, q.2⟩, fun q => ⟨q.1.resolve_left (fun r => q.2 r.symm), q.2⟩⟩
    · rw [if_neg e, List.mem_cons, List.mem_cons, ih]
      simp only [ne_eq, Option.some.injEq]
      constructor
      · rintro (rfl | ⟨q1, q2⟩)
        · exact ⟨Or.inl rfl, e⟩
        · refine ⟨Or.inr q1, fun hpx => ?_⟩
          obtain ⟨g1, g2⟩ := hp x hpx
          have a1 := g2 c (List.mem_cons_self ..)
          have a2 := h1.1 x q1
          have s := cmpR_swap x c
          exact q2 ((cmpR_cln cc (hc x (List.mem_cons_of_mem _ q1))).1 (by omega))
      · rintro ⟨rfl | q, r⟩
        · exact Or.inl rfl
        · by_cases hx : c = x
          · exact Or.inl hx.symm
          · exact Or.inr ⟨q, hx⟩
theorem dedR_ord : ∀ (l : List (List TValue)) (p : Option (List TValue)), LeRs l → (∀ c ∈ l, clnR c) → (∀ q, p = some q → clnR q ∧ ∀ c ∈ l, ¬ cmpR c q < 0) → (dedR p l).Pairwise fun a b => cmpR a b < 0
  | [], p, _, _, _ => List.Pairwise.nil
  | c :: l, p, h, hc, hp => by
    have h1 := List.pairwise_cons.1 h
    have cc := hc c (List.mem_cons_self ..)
    have hq : ∀ q, some c = some q → clnR q ∧ ∀ z ∈ l, ¬ cmpR z q < 0 := fun q hq => by cases hq; exact ⟨cc, h1.1⟩
    have ih := dedR_ord l (some c) h1.2 (fun y hy => hc y (List.mem_cons_of_mem _ hy)) hq
    unfold dedR
    split
    · exact ih
    · refine List.pairwise_cons.2 ⟨fun x hx => ?_, ih⟩
      have hm := (dedR_mem l (some c) h1.2 (fun y hy => hc y (List.mem_cons_of_mem _ hy)) hq).1 hx
      have a := h1.1 x hm.1
      have s := cmpR_swap x c
      have ne : cmpR c x ≠ 0 := fun e => hm.2 (by rw [(cmpR_cln cc (hc x (List.mem_cons_of_mem _ hm.1))).1 e])
      omega
def gD (a b : List TPublished) (c : List TValue) : Option TPublished := if (fU a c).1 = (fU b c).1 then none else some ⟨c, IntKind.i64.wrap ((fU b c).1 - (fU a c).1)⟩
def diffS (a b : List TPublished) : List TPublished := (dedR none (srtR ((a ++ b).map keyU))).filterMap (gD a b)
def OrdU (l : List TPublished) : Prop := l.Pairwise fun x y => cmpR x.f0 y.f0 < 0
theorem gD_key {a b : List TPublished} {c : List TValue} {u : TPublished} (h : gD a b c = some u) : u.f0 = c := by
  unfold gD at h
  split at h
  · cases h
  · rw [← Option.some.inj h]
theorem srt_cln (a b : List TPublished) : ∀ c ∈ srtR ((a ++ b).map keyU), clnR c := by
  intro c hc
  obtain ⟨u, _, rfl⟩ := List.mem_map.1 ((srtR_perm _).mem_iff.1 hc)
  exact clnR_key u
theorem diffS_mem {a b : List TPublished} {u : TPublished} : u ∈ diffS a b ↔ ∃ c ∈ (a ++ b).map keyU, gD a b c = some u := by
  unfold diffS
  rw [List.mem_filterMap]
  constructor
  · rintro ⟨c, hc, hg⟩
    rw [dedR_mem _ none (srtR_le _) (srt_cln a b) (fun q hq => by cases hq)] at hc
    exact ⟨c, (srtR_perm _).mem_iff.1 hc.1, hg⟩
  · rintro ⟨c, hc, hg⟩
    refine ⟨c, ?_, hg⟩
    rw [dedR_mem _ none (srtR_le _) (srt_cln a b) (fun q hq => by cases hq)]
    exact ⟨(srtR_perm _).mem_iff.2 hc, by simp⟩
theorem diffS_ord (a b : List TPublished) : OrdU (diffS a b) := by
  unfold diffS OrdU
  refine List.Pairwise.filterMap _ (fun x y hxy u hu v hv => ?_) (dedR_ord _ none (srtR_le _) (srt_cln a b) (fun q hq => by cases hq))
  rw [gD_key hu, gD_key hv]
  exact hxy
theorem OrdU_ext : ∀ {l m : List TPublished}, OrdU l → OrdU m → (∀ u, u ∈ l ↔ u ∈ m) → l = m
  | [], [], _, _, _ => rfl
  | [], y :: m, _, _, h => by have := (h y).2 (List.mem_cons_self ..); cases this
  | x :: l, [], _, _, h => by have := (h x).1 (List.mem_cons_self ..); cases this
  | x :: l, y :: m, hl, hm, h => by
    have l1 := List.pairwise_cons.1 hl
    have m1 := List.pairwise_cons.1 hm
    have e : x = y := by
      rcases List.mem_cons.1 ((h x).1 (List.mem_cons_self ..)) with e | hx
      · exact e
      · rcases List.mem_cons.1 ((h y).2 (List.mem_cons_self ..)) with e | hy
        · exact e.symm
        · have a1 := m1.1 x hx
          have a2 := l1.1 y hy
          have s := cmpR_swap x.f0 y.f0
          omega
    subst e
    have t : ∀ u, u ∈ l ↔ u ∈ m := by
      intro u
      constructor
      · intro hu
        rcases List.mem_cons.1 ((h u).1 (List.mem_cons_of_mem _ hu)) with rfl | hu'
        · have := l1.1 u hu; rw [cmpR_self] at this; omega
        · exact hu'
      · intro hu
        rcases List.mem_cons.1 ((h u).2 (List.mem_cons_of_mem _ hu)) with rfl | hu'
        · have := m1.1 u hu; rw [cmpR_self] at this; omega
        · exact hu'
    rw [OrdU_ext l1.2 m1.2 t]
def wfU (l : List TPublished) : Prop := ∀ u ∈ l, -9223372036854775808 ≤ u.f1 ∧ u.f1 ≤ 9223372036854775807
theorem fU_rng {l : List TPublished} (h : wfU l) (c : List TValue) : -9223372036854775808 ≤ (fU l c).1 ∧ (fU l c).1 ≤ 9223372036854775807 := by
  induction l with
  | nil => unfold fU; simp
  | cons u l ih =>
    unfold fU
    split
    · exact h u (List.mem_cons_self ..)
    · exact ih (fun x hx => h x (List.mem_cons_of_mem _ hx))
theorem wrap_ne {x y : Int} (hx : -9223372036854775808 ≤ x ∧ x ≤ 9223372036854775807) (hy : -9223372036854775808 ≤ y ∧ y ≤ 9223372036854775807) : IntKind.i64.wrap (y - x) = 0 ↔ x = y := by
  rw [IntKind.wrap_i64]; omega
def prevR (l : List (List TValue)) (i : Nat) : Option (List TValue) := if i = 0 then none else some (l.getD ((i - 1 : Nat) : Int).toNat [])
theorem dR {l : List (List TValue)} {i : Nat} (h : i < l.length) : l.drop i = l.getD (i : Int).toNat [] :: l.drop (i + 1) := drop_cons _ h
theorem prevR_succ (l : List (List TValue)) (i : Nat) : prevR l (i + 1) = some (l.getD (i : Int).toNat []) := by
  unfold prevR; rw [if_neg (by omega)]; rfl
theorem diff_p3 (a b : List TPublished) (ys : List (List TValue)) (fa : FinU a) (fb : FinU b) (wa : wfU a) (wb : wfU b) (hy : ∀ c ∈ ys, clnR c) (hf : ∀ c ∈ ys, c.length ≤ 9223372036854775807) (hl : ys.length ≤ 1000000) :
    ∀ i, i ≤ ys.length → ∀ out : List TPublished, out.length ≤ i → Ev (fun k => release_Differences.p3 k a b (i : Int) ys out) (out ++ (dedR (prevR ys i) (ys.drop i)).filterMap (gD a b)) := by
  refine loop_down (P := fun i => ∀ out : List TPublished, out.length ≤ i → Ev (fun k => release_Differences.p3 k a b (i : Int) ys out) (out ++ (dedR (prevR ys i) (ys.drop i)).filterMap (gD a b))) ys.length ?_ ?_
  · intro out _
    refine Ev.succ ?_
    simp only [release_Differences.p3, decide_eq_true_eq]
    rw [List.drop_length]
    exact Ev.ite_neg (by omega) (Ev.done (by simp [dedR]))
  · intro i hi ih out ho
    refine Ev.succ ?_
    simp only [release_Differences.p3, decide_eq_true_eq, beq_iff_eq, bne_iff_ne]
    have ca := hy _ (getD_mem ([] : List TValue) hi)
    have tail : prevR ys i ≠ some (ys.getD (i : Int).toNat []) → Ev (fun k => (release_Find k a (ys.getD (i : Int).toNat ([] : List TValue))).bind fun y_20 => ((release_Find k b (ys.getD (i : Int).toNat ([] : List TValue))).bind fun y_22 => (if (IntKind.i64.wrap (y_22.1 - y_20.1)) ≠ 0 then (if (out).length + ([(TPublished.mk (ys.getD (i : Int).toNat ([] : List TValue)) (IntKind.i64.wrap (y_22.1 - y_20.1)))]).length ≤ maxLen ∧ ((out).length + ([(TPublished.mk (ys.getD (i : Int).toNat ([] : List TValue)) (IntKind.i64.wrap (y_22.1 - y_20.1)))]).length) * 32 ≤ 140737488355328 then (release_Differences.p3 k a b (IntKind.i64.wrap ((i : Int) + 1)) ys (out ++ ([(TPublished.mk (ys.getD (i : Int).toNat ([] : List TValue)) (IntKind.i64.wrap (y_22.1 - y_20.1)))]))) else none) else (release_Differences.p3 k a b (IntKind.i64.wrap ((i : Int) + 1)) ys out)))) (out ++ (dedR (prevR ys i) (ys.drop i)).filterMap (gD a b)) := by
      intro hne
      rw [dR hi, wrn hi (by omega)]
      unfold dedR
      rw [if_neg hne, List.filterMap_cons]
      have e1 := Find_ev a (ys.getD (i : Int).toNat []) fa
      have e2 := Find_ev b (ys.getD (i : Int).toNat []) fb
      rw [ca] at e1 e2
      refine Ev.bind e1 (Ev.bind e2 ?_)
      have hw := wrap_ne (fU_rng wa (ys.getD (i : Int).toNat [])) (fU_rng wb (ys.getD (i : Int).toNat []))
      rw [prevR_succ] at ih
      by_cases h : (fU a (ys.getD (i : Int).toNat [])).1 = (fU b (ys.getD (i : Int).toNat [])).1
      · refine Ev.ite_neg (fun q => q (hw.2 h)) ((ih out (by omega)).to ?_)
        unfold gD
        rw [if_pos h]
      · refine Ev.ite_pos (fun q => h (hw.1 q)) (Ev.ite_pos (by simp only [maxLen, List.length_singleton]; omega) ((ih _ (by simp; omega)).to ?_))
        unfold gD
        rw [if_neg h, List.append_assoc]; rfl
    refine Ev.ite_pos (by omega) ?_
    by_cases h0 : i = 0
    · subst h0
      exact Ev.ite_neg (by simp) (Ev.ite_pos (by omega) (tail (by simp [prevR])))
    · have e1 : IntKind.i64.wrap ((i : Int) - 1) = ((i - 1 : Nat) : Int) := by rw [wr (by omega)]; omega
      have hi1 : i - 1 < ys.length := by omega
      rw [e1]
      refine Ev.ite_pos (by omega) (Ev.ite_pos (by omega) (Ev.ite_pos (by omega) (Ev.bind (value_CompareRows_ev _ _ (hf _ (getD_mem [] hi1))) ?_)))
      have hp : prevR ys i = some (ys.getD ((i - 1 : Nat) : Int).toNat []) := by unfold prevR; rw [if_neg h0]
      have hz := cmpR_cln (hy _ (getD_mem ([] : List TValue) hi1)) ca
      by_cases hc : cmpR (ys.getD ((i - 1 : Nat) : Int).toNat []) (ys.getD (i : Int).toNat []) = 0
      · refine Ev.ite_pos hc ?_
        rw [dR hi, wrn hi (by omega)]
        unfold dedR
        rw [if_pos (by rw [hp, hz.1 hc]), ← prevR_succ]
        exact ih out (by omega)
      · exact Ev.ite_neg hc (tail (fun q => hc (hz.2 (by rw [hp] at q; exact Option.some.inj q))))
theorem Differences_ev (a b : List TPublished) (fa : a.length ≤ 100000 ∧ ∀ u ∈ a, u.f0.length ≤ 1000000) (fb : b.length ≤ 100000 ∧ ∀ u ∈ b, u.f0.length ≤ 1000000) (wa : wfU a) (wb : wfU b) : Ev (fun k => release_Differences k a b) (diffS a b) := by
  have Fa : FinU a := ⟨by omega, fun u hu => by have := fa.2 u hu; omega⟩
  have Fb : FinU b := ⟨by omega, fun u hu => by have := fb.2 u hu; omega⟩
  unfold release_Differences
  have klen : ((a ++ b).map keyU).length = a.length + b.length := by simp
  have kall : ∀ c ∈ (a ++ b).map keyU, clnR c ∧ c.length ≤ 1000000 := by
    intro c hc
    obtain ⟨u, hu, rfl⟩ := List.mem_map.1 hc
    refine ⟨clnR_key u, ?_⟩
    unfold keyU
    rw [List.length_map]
    rcases List.mem_append.1 hu with h | h
    · exact fa.2 u h
    · exact fb.2 u h
  have sl : (srtR ((a ++ b).map keyU)).length = a.length + b.length := by rw [(srtR_perm _).length_eq, klen]
  have p2 : ∀ i, i ≤ b.length → ∀ ks, ks ++ (b.drop i).map keyU = (a ++ b).map keyU → Ev (fun k => release_Differences.p2 k a b (i : Int) ks) (diffS a b) := by
    refine loop_down (P := fun i => ∀ ks, ks ++ (b.drop i).map keyU = (a ++ b).map keyU → Ev (fun k => release_Differences.p2 k a b (i : Int) ks) (diffS a b)) b.length ?_ ?_
    · intro ks h
      rw [List.drop_length, List.map_nil, List.append_nil] at h
      subst h
      refine Ev.succ ?_
      simp only [release_Differences.p2, decide_eq_true_eq]
      refine Ev.ite_neg (by omega) ?_
      rw [sort_rows (fun x hx => (kall x hx).1) (fun x hx => by have := (kall x hx).2; omega) (by omega)]
      have h3 := diff_p3 a b (srtR ((a ++ b).map keyU)) Fa Fb wa wb (srt_cln a b) (fun c hc => by have := (kall c ((srtR_perm _).mem_iff.1 hc)).2; omega) (by omega) 0 (by omega) [] (by simp)
      exact h3.to (by rw [List.drop_zero, List.nil_append]; rfl)
    · intro i hi ih ks h
      refine Ev.succ ?_
      simp only [release_Differences.p2, decide_eq_true_eq]
      have hx := fb.2 _ (getD_mem dPublished hi)
      rw [dU hi, List.map_cons] at h
      have hl := congrArg List.length h
      rw [klen] at hl
      simp only [List.length_append, List.length_cons] at hl
      refine Ev.ite_pos (by omega) (Ev.ite_pos (by omega) (Ev.bind (cleaned_ev _ (by omega)) (Ev.ite_pos (by simp only [maxLen, List.length_singleton]; omega) ?_)))
      rw [wrn hi (by omega)]
      exact ih _ (by rw [List.append_assoc]; exact h)
  have p1 : ∀ i, i ≤ a.length → ∀ ks, ks ++ (a.drop i).map keyU = a.map keyU → Ev (fun k => release_Differences.p1 k a b (i : Int) ks) (diffS a b) := by
    refine loop_down (P := fun i => ∀ ks, ks ++ (a.drop i).map keyU = a.map keyU → Ev (fun k => release_Differences.p1 k a b (i : Int) ks) (diffS a b)) a.length ?_ ?_
    · intro ks h
      rw [List.drop_length, List.map_nil, List.append_nil] at h
      refine Ev.succ ?_
      simp only [release_Differences.p1, decide_eq_true_eq]
      exact Ev.ite_neg (by omega) (p2 0 (by omega) ks (by rw [h, List.drop_zero, List.map_append]))
    · intro i hi ih ks h
      refine Ev.succ ?_
      simp only [release_Differences.p1, decide_eq_true_eq]
      have hx := fa.2 _ (getD_mem dPublished hi)
      rw [dU hi, List.map_cons] at h
      have hl := congrArg List.length h
      simp only [List.length_append, List.length_cons, List.length_map] at hl
      refine Ev.ite_pos (by omega) (Ev.ite_pos (by omega) (Ev.bind (cleaned_ev _ (by omega)) (Ev.ite_pos (by simp only [maxLen, List.length_singleton]; omega) ?_)))
      rw [wrn hi (by omega)]
      exact ih _ (by rw [List.append_assoc]; exact h)
  exact p1 0 (by omega) [] (by rw [List.drop_zero, List.nil_append])
end Go.Proofs.YtjhnpaenhdbhpaaV
set_option linter.unusedVariables false
set_option linter.unusedSimpArgs false
namespace Go.Proofs.YtjhnpaenhdbhpaaV
open Go Go.RowKit
def EvU {ρ α : Type} (c : ρ → Prop) (g : ρ → Nat → Option α) (r : α) : Prop := ∃ K, ∀ x, c x → ∀ k, K ≤ k → g x k = some r
theorem EvU.of {ρ α : Type} {c : ρ → Prop} {g : Nat → Option α} {r : α} (h : Ev g r) : EvU c (fun _ k => g k) r := by obtain ⟨K, h⟩ := h; exact ⟨K, fun _ _ k hk => h k hk⟩
theorem EvU.rec {ρ α : Type} {c : ρ → Prop} {g : ρ → Option α} {r : α} (h : ∀ x, c x → g x = some r) : EvU c (fun x _ => g x) r := ⟨0, fun x hx _ _ => h x hx⟩
theorem EvU.now {ρ α : Type} {c : ρ → Prop} (r : α) : EvU c (fun _ _ => some r) r := ⟨0, fun _ _ _ _ => rfl⟩
theorem EvU.done {ρ α : Type} {c : ρ → Prop} {a r : α} (h : a = r) : EvU c (fun _ _ => some a) r := by subst h; exact EvU.now _
theorem EvU.bind {ρ α β : Type} {c : ρ → Prop} {f : Nat → Option α} {g : ρ → Nat → α → Option β} {a : α} {r : β} (h : Ev f a) (h' : EvU c (fun x k => g x k a) r) : EvU c (fun x k => (f k).bind (g x k)) r := by
  obtain ⟨K, h⟩ := h; obtain ⟨L, h'⟩ := h'
  exact ⟨max K L, fun x hx k hk => by show (f k).bind (g x k) = some r; rw [h k (by omega)]; exact h' x hx k (by omega)⟩
theorem EvU.succ {ρ α : Type} {c : ρ → Prop} {g : ρ → Nat → Option α} {r : α} (h : EvU c (fun x k => g x (k + 1)) r) : EvU c g r := by
  obtain ⟨K, h⟩ := h
  exact ⟨K + 1, fun x hx k hk => by obtain ⟨m, rfl⟩ : ∃ m, k = m + 1 := ⟨k - 1, by omega⟩; exact h x hx m (by omega)⟩
theorem EvU.congr {ρ α : Type} {c : ρ → Prop} {f g : ρ → Nat → Option α} {r : α} (h : ∀ x k, g x k = f x k) (k : EvU c f r) : EvU c g r := by rw [show g = f from funext fun x => funext (h x)]; exact k
theorem EvU.ite_pos {ρ α : Type} {q : ρ → Prop} {g f : ρ → Nat → Option α} {r : α} {c : Prop} [Decidable c] (h : c) (k : EvU q g r) : EvU q (fun x n => if c then g x n else f x n) r := EvU.congr (fun x n => if_pos h) k
theorem EvU.ite_neg {ρ α : Type} {q : ρ → Prop} {g f : ρ → Nat → Option α} {r : α} {c : Prop} [Decidable c] (h : ¬ c) (k : EvU q f r) : EvU q (fun x n => if c then g x n else f x n) r := EvU.congr (fun x n => if_neg h) k
theorem EvU.to {ρ α : Type} {q : ρ → Prop} {g : ρ → Nat → Option α} {r s : α} (h : EvU q g r) (e : r = s) : EvU q g s := by subst e; exact h
theorem EvU.use {ρ α : Type} {q : ρ → Prop} {g : ρ → Nat → Option α} {r : α} (h : EvU q g r) {F : Nat → ρ} (hF : ∃ K, ∀ k, K ≤ k → q (F k)) : Ev (fun k => g (F k) k) r := by
  obtain ⟨K, h⟩ := h; obtain ⟨L, hF⟩ := hF
  exact ⟨max K L, fun k hk => h _ (hF k (by omega)) k (by omega)⟩
end Go.Proofs.YtjhnpaenhdbhpaaV
set_option linter.unusedVariables false
set_option linter.unusedSimpArgs false
namespace Go.Proofs.YtjhnpaenhdbhpaaV
open Go Go.RowKit
theorem set_at {α : Type} (x y : α) (P Q : List α) (n : Nat) (hn : n = P.length) : (P ++ x :: Q).set n y = P ++ y :: Q := by
  subst hn
  simp
theorem getD_at {α : Type} (P Q : List α) (x d : α) (n : Nat) (hn : n = P.length) : (P ++ x :: Q).getD n d = x := by
  subst hn
  simp
def insP (y : TPublished) : List TPublished → List TPublished
  | [] => [y]
  | x :: l => if cmpR x.f0 y.f0 < 0 then x :: insP y l else y :: x :: l
theorem insP_perm (y : TPublished) : ∀ l, (insP y l).Perm (y :: l)
  | [] => List.Perm.refl _
  | x :: l => by
    unfold insP
    split
    · exact ((insP_perm y l).cons x).trans (List.Perm.swap y x l)
    · exact List.Perm.refl _
theorem insP_ord (y : TPublished) : ∀ l : List TPublished, OrdU l → (∀ x ∈ l, cmpR x.f0 y.f0 ≠ 0) → OrdU (insP y l)
  | [], _, _ => List.pairwise_singleton _ _
  | x :: l, ho, hn => by
    have h1 := List.pairwise_cons.1 ho
    have s := cmpR_swap x.f0 y.f0
    have n0 := hn x (List.mem_cons_self ..)
    unfold insP
    split
    · rename_i h
      refine List.pairwise_cons.2 ⟨fun z hz => ?_, insP_ord y l h1.2 (fun z hz => hn z (List.mem_cons_of_mem _ hz))⟩
      rcases List.mem_cons.1 ((insP_perm y l).mem_iff.1 hz) with rfl | hz
      · exact h
      · exact h1.1 z hz
    · rename_i h
      refine List.pairwise_cons.2 ⟨fun z hz => ?_, ho⟩
      rcases List.mem_cons.1 hz with rfl | hz
      · omega
      · exact cmpR_trans (show cmpR y.f0 x.f0 < 0 by omega) (h1.1 z hz)
def bubU (y : TPublished) : List TPublished → List TPublished → List TPublished
  | [], B => y :: B
  | a :: A, B => if cmpR y.f0 a.f0 < 0 then bubU y A (a :: B) else (a :: A).reverse ++ y :: B
theorem insP_app (w : TPublished) : ∀ (l B : List TPublished), (∀ x ∈ l, cmpR x.f0 w.f0 < 0) → insP w (l ++ B) = l ++ insP w B
  | [], _, _ => rfl
  | x :: l, B, h => by
    rw [List.cons_append, show insP w (x :: (l ++ B)) = if cmpR x.f0 w.f0 < 0 then x :: insP w (l ++ B) else w :: x :: (l ++ B) from rfl, if_pos (h x (List.mem_cons_self ..)), insP_app w l B (fun z hz => h z (List.mem_cons_of_mem _ hz))]; rfl
theorem insP_gt (w : TPublished) (B : List TPublished) (h : ∀ x ∈ B, ¬ cmpR x.f0 w.f0 < 0) : insP w B = w :: B := by
  cases B with
  | nil => rfl
  | cons b B => unfold insP; rw [if_neg (h b (List.mem_cons_self ..))]
theorem bubU_ins (w : TPublished) : ∀ (A B : List TPublished), OrdU (A.reverse ++ B) → (∀ x ∈ A.reverse ++ B, cmpR x.f0 w.f0 ≠ 0) → (∀ x ∈ B, ¬ cmpR x.f0 w.f0 < 0) → bubU w A B = insP w (A.reverse ++ B)
  | [], B, _, _, hB => by unfold bubU; rw [List.reverse_nil, List.nil_append, insP_gt w B hB]
  | a :: A, B, ho, hn, hB => by
    unfold bubU
    have ha0 := hn a (by simp)
    have hsw := cmpR_swap a.f0 w.f0
    by_cases h : cmpR w.f0 a.f0 < 0
    · rw [if_pos h]
      have e : (a :: A).reverse ++ B = A.reverse ++ (a :: B) := by simp
      rw [e] at ho hn ⊢
      refine bubU_ins w A (a :: B) ho hn (fun x hx => ?_)
      rcases List.mem_cons.1 hx with rfl | hx
      · omega
      · exact hB x hx
    · rw [if_neg h]
      have hlt : cmpR a.f0 w.f0 < 0 := by omega
      have hall : ∀ x ∈ (a :: A).reverse, cmpR x.f0 w.f0 < 0 := by
        intro x hx
        rw [List.reverse_cons] at hx
        rcases List.mem_append.1 hx with hx | hx
        · have hp : OrdU (A.reverse ++ [a]) := by
            have := (List.pairwise_append.1 ho).1
            rwa [List.reverse_cons] at this
          exact cmpR_trans ((List.pairwise_append.1 hp).2.2 x hx a (by simp)) hlt
        · rw [List.mem_singleton] at hx; subst hx; exact hlt
      rw [insP_app w _ B hall, insP_gt w B hB]
theorem refD_p2 (a b all : List TPublished) (i : Int) (y : TPublished) (r : List TPublished) (hy : y.f0.length ≤ 9223372036854775807) : ∀ (A B : List TPublished), A.length ≤ 1099511627776 →
    EvU (fun rec1 => rec1 a b (IntKind.i64.wrap (i + 1)) all (bubU y A B) = some r) (fun rec1 k => erasureref35_Differences.p2 rec1 k a b i (A.length : Int) all (A.reverse ++ y :: B)) r := by
  intro A
  induction A with
  | nil =>
    intro B _
    refine EvU.succ ?_
    simp only [erasureref35_Differences.p2, decide_eq_true_eq]
    exact EvU.ite_neg (by simp) (EvU.rec fun x hx => hx)
  | cons c A ih =>
    intro B hl
    simp only [List.length_cons] at hl
    refine EvU.succ ?_
    simp only [erasureref35_Differences.p2, decide_eq_true_eq]
    have hw1 : IntKind.i64.wrap (((c :: A).length : Int) - 1) = (A.length : Int) := by rw [wr (by simp; omega)]; simp
    have e0 : (c :: A).reverse ++ y :: B = A.reverse ++ c :: (y :: B) := by simp
    have e1 : ((c :: A).reverse ++ y :: B).getD ((c :: A).length : Int).toNat dPublished = y := getD_at _ _ _ _ _ (by simp)
    have e2 : ((c :: A).reverse ++ y :: B).getD (A.length : Int).toNat dPublished = c := by rw [e0]; exact getD_at _ _ _ _ _ (by simp)
    have e3 : (((c :: A).reverse ++ y :: B).set (A.length : Int).toNat y).set ((c :: A).length : Int).toNat c = A.reverse ++ y :: (c :: B) := by
      rw [e0, Int.toNat_natCast, Int.toNat_natCast, set_at c y A.reverse (y :: B) A.length (by simp)]
      have e4 : A.reverse ++ y :: (y :: B) = (A.reverse ++ [y]) ++ y :: B := by simp
      rw [e4, set_at y c (A.reverse ++ [y]) B (c :: A).length (by simp)]
      simp
    simp only [hw1, e1, e2, e3]
    refine EvU.ite_pos (by simp only [List.length_cons]; omega) (EvU.ite_pos (by simp only [List.length_append, List.length_reverse, List.length_cons]; omega) (EvU.ite_pos (by simp only [List.length_append, List.length_reverse, List.length_cons]; omega) (EvU.bind (ref01_CompareRows_ev _ _ hy) ?_)))
    unfold bubU
    by_cases hc : cmpR y.f0 c.f0 < 0
    · rw [if_pos hc]; exact EvU.ite_pos hc (ih (c :: B) (by omega))
    · rw [if_neg hc]; exact EvU.ite_neg hc (EvU.rec fun x hx => by simpa using hx)
theorem fU_has : ∀ (l : List TPublished) (c : List TValue), (fU l c).2 = decide (c ∈ l.map keyU)
  | [], c => by simp [fU]
  | u :: l, c => by
    unfold fU
    by_cases h : keyU u = c
    · rw [if_pos h]; simp [h]
    · rw [if_neg h, fU_has l c]
      have : ¬ c = keyU u := fun e => h e.symm
      simp [this]
theorem refDifferences_ev (a b : List TPublished) (fa : a.length ≤ 100000 ∧ ∀ u ∈ a, u.f0.length ≤ 1000000) (fb : b.length ≤ 100000 ∧ ∀ u ∈ b, u.f0.length ≤ 1000000) (wa : wfU a) (wb : wfU b) : Ev (fun k => erasureref35_Differences k a b) (diffS a b) := by
  have Fa : FinU a := ⟨by omega, fun u hu => by have := fa.2 u hu; omega⟩
  have Fb : FinU b := ⟨by omega, fun u hu => by have := fb.2 u hu; omega⟩
  have fall : ∀ u ∈ a ++ b, u.f0.length ≤ 1000000 := fun u hu => (List.mem_append.1 hu).elim (fa.2 u) (fb.2 u)
  have hla : (a ++ b).length = a.length + b.length := List.length_append
  unfold erasureref35_Differences
  simp only [List.nil_append, List.length_nil]
  refine Ev.ite_pos (by simp only [maxLen]; omega) (Ev.ite_pos (by simp only [maxLen]; omega) ?_)
  have key : ∀ i, i ≤ (a ++ b).length → ∀ out : List TPublished, out.length ≤ i → OrdU out → (∀ u, u ∈ out ↔ ∃ c ∈ ((a ++ b).take i).map keyU, gD a b c = some u) → Ev (fun k => erasureref35_Differences.p1 k a b (i : Int) (a ++ b) out) (diffS a b) := by
    refine loop_down (P := fun i => ∀ out : List TPublished, out.length ≤ i → OrdU out → (∀ u, u ∈ out ↔ ∃ c ∈ ((a ++ b).take i).map keyU, gD a b c = some u) → Ev (fun k => erasureref35_Differences.p1 k a b (i : Int) (a ++ b) out) (diffS a b)) (a ++ b).length ?_ ?_
    · intro out _ ho hm
      rw [List.take_length] at hm
      refine Ev.succ ?_
      simp only [erasureref35_Differences.p1, decide_eq_true_eq]
      refine Ev.ite_neg (by omega) (Ev.done (OrdU_ext ho (diffS_ord a b) (fun u => ?_)))
      rw [hm, diffS_mem]
    · intro i hi ih out hl ho hm
      refine Ev.succ ?_
      simp only [erasureref35_Differences.p1, decide_eq_true_eq, beq_iff_eq]
      have hx := fall _ (getD_mem dPublished hi)
      have htk : (a ++ b).take (i + 1) = (a ++ b).take i ++ [(a ++ b).getD (i : Int).toNat dPublished] := by
        rw [List.take_succ_eq_append_getElem hi, List.getD_eq_getElem?_getD, Int.toNat_natCast, List.getElem?_eq_getElem hi]; rfl
      have hs : subL (a ++ b) (0 : Int) (i : Int) = (a ++ b).take i := by simp [subL]
      rw [hs]
      have Ft : FinU ((a ++ b).take i) := ⟨by rw [List.length_take]; omega, fun u hu => by have := fall u (List.mem_of_mem_take hu); omega⟩
      refine Ev.ite_pos (by omega) (Ev.ite_pos (by omega) (Ev.ite_pos (by omega) (Ev.bind (refFind_ev _ _ Ft) (Ev.bind (refFind_ev _ _ Fa) (Ev.bind (refFind_ev _ _ Fb) ?_)))))
      rw [fU_has]
      generalize hx0 : (a ++ b).getD (i : Int).toNat dPublished = x at *
      rw [wrn hi (by omega)]
      have hm1 : ∀ u, (∃ c ∈ ((a ++ b).take (i + 1)).map keyU, gD a b c = some u) ↔ u ∈ out ∨ gD a b (x.f0.map clV) = some u := by
        intro u
        rw [htk, List.map_append, hm]
        constructor
        · rintro ⟨c, hc, hg⟩
          rcases List.mem_append.1 hc with hc | hc
          · exact Or.inl ⟨c, hc, hg⟩
          · simp only [List.map_cons, List.map_nil, List.mem_singleton] at hc
            subst hc; exact Or.inr hg
        · rintro (⟨c, hc, hg⟩ | hg)
          · exact ⟨c, List.mem_append.2 (Or.inl hc), hg⟩
          · exact ⟨_, List.mem_append.2 (Or.inr (by simp [keyU])), hg⟩
      by_cases had : x.f0.map clV ∈ ((a ++ b).take i).map keyU
      · refine Ev.ite_pos (decide_eq_true had) (ih out (by omega) ho (fun u => ?_))
        rw [hm1]
        exact ⟨Or.inl, fun h => h.elim id (fun h => (hm u).2 ⟨_, had, h⟩)⟩
      · refine Ev.ite_neg (by simpa using had) ?_
        by_cases hxy : (fU a (x.f0.map clV)).1 = (fU b (x.f0.map clV)).1
        · refine Ev.ite_pos hxy (ih out (by omega) ho (fun u => ?_))
          rw [hm1]
          exact ⟨Or.inl, fun h => h.elim id (fun h => by unfold gD at h; rw [if_pos hxy] at h; cases h)⟩
        · refine Ev.ite_neg hxy (Ev.bind (cleanRow_ev _ (by omega)) (Ev.ite_pos (by simp only [maxLen, List.length_singleton]; omega) ?_))
          have hg : gD a b (x.f0.map clV) = some ⟨x.f0.map clV, IntKind.i64.wrap ((fU b (x.f0.map clV)).1 - (fU a (x.f0.map clV)).1)⟩ := by unfold gD; rw [if_neg hxy]
          generalize hyy : (⟨x.f0.map clV, IntKind.i64.wrap ((fU b (x.f0.map clV)).1 - (fU a (x.f0.map clV)).1)⟩ : TPublished) = y at hg
          have hy0 : y.f0 = x.f0.map clV := by rw [← hyy]
          have hw : IntKind.i64.wrap (((out ++ [y]).length : Int) - 1) = (out.reverse.length : Int) := by rw [wr (by simp; omega)]; simp
          rw [hw]
          have hne : ∀ z ∈ out, cmpR z.f0 y.f0 ≠ 0 := by
            intro z hz e
            obtain ⟨c, hc, hgc⟩ := (hm z).1 hz
            have hz0 := gD_key hgc
            obtain ⟨v, _, hv⟩ := List.mem_map.1 hc
            have cz : clnR z.f0 := by rw [hz0, ← hv]; exact clnR_key v
            have cy : clnR y.f0 := by rw [hy0]; exact clnR_key x
            have := (cmpR_cln cz cy).1 e
            exact had (by rw [← hy0, ← this, hz0]; exact hc)
          have h2 := refD_p2 a b (a ++ b) (i : Int) y (diffS a b) (by rw [hy0, List.length_map]; omega) out.reverse [] (by simp; omega)
          rw [List.reverse_reverse, bubU_ins y out.reverse [] (by simpa using ho) (by simpa using hne) (by simp)] at h2
          simp only [List.reverse_reverse, List.append_nil] at h2
          refine EvU.use (F := fun k => erasureref35_Differences.p1 k) h2 ?_
          obtain ⟨K, hK⟩ := ih (insP y out) (by rw [(insP_perm y out).length_eq]; simp; omega) (insP_ord y out ho hne) (fun u => by
            rw [hm1, (insP_perm y out).mem_iff, List.mem_cons, hg]
            constructor
            · rintro (h | h)
              · exact Or.inr (by rw [h])
              · exact Or.inl h
            · rintro (h | h)
              · exact Or.inr h
              · exact Or.inl (Option.some.inj h).symm)
          exact ⟨K, fun k hk => by rw [wrn hi (by omega)]; exact hK k hk⟩
  exact key 0 (by omega) [] (by simp) List.Pairwise.nil (fun u => by simp)
theorem few_ev (l : List TPublished) (hl : FinU l) : Ev (fun k => erasurelaw35_few k l) (l.all (fun e => decide (e.f0.length ≤ 20)) && decide (l.length ≤ 30)) := by
  unfold erasurelaw35_few
  refine (loop_down (P := fun i => Ev (fun k => erasurelaw35_few.p1 k l (i : Int)) ((l.drop i).all (fun e => decide (e.f0.length ≤ 20)) && decide (l.length ≤ 30))) l.length ?_ ?_ 0 (by omega))
  · refine Ev.succ ?_
    simp only [erasurelaw35_few.p1, decide_eq_true_eq]
    rw [List.drop_length]
    refine Ev.ite_neg (by omega) (Ev.done ?_)
    simp; omega
  · intro i hi ih
    refine Ev.succ ?_
    simp only [erasurelaw35_few.p1, decide_eq_true_eq]
    refine Ev.ite_pos (by omega) (Ev.ite_pos (by omega) ?_)
    rw [dU hi, wrn hi hl.1, List.all_cons]
    by_cases h : (l.getD (i : Int).toNat dPublished).f0.length ≤ 20
    · rw [decide_eq_true h]; exact Ev.ite_neg (by omega) (by simpa using ih)
    · rw [decide_eq_false h]; exact Ev.ite_pos (by omega) (Ev.done (by simp))
theorem aw35 : Ev (fun k => (erasurelaw35_awake k).bind fun y => some y) true := Ev.bind awake_ev (Ev.now _)
theorem diffS_fin {a b : List TPublished} (fa : a.length ≤ 100000 ∧ ∀ u ∈ a, u.f0.length ≤ 1000000) (fb : b.length ≤ 100000 ∧ ∀ u ∈ b, u.f0.length ≤ 1000000) : FinU (diffS a b) := by
  have hded : ∀ (l : List (List TValue)) (p : Option (List TValue)), (dedR p l).length ≤ l.length := by
    intro l
    induction l with
    | nil => intro p; simp [dedR]
    | cons c l ih => intro p; unfold dedR; split; have := ih (some c); simp; omega; have := ih (some c); simp; omega
  constructor
  · unfold diffS
    have h1 := List.length_filterMap_le (gD a b) (dedR none (srtR ((a ++ b).map keyU)))
    have h2 := hded (srtR ((a ++ b).map keyU)) none
    have h3 := (srtR_perm ((a ++ b).map keyU)).length_eq
    simp only [List.length_map, List.length_append] at h3
    omega
  · intro u hu
    obtain ⟨c, hc, hg⟩ := diffS_mem.1 hu
    obtain ⟨v, hv, rfl⟩ := List.mem_map.1 hc
    rw [gD_key hg]
    unfold keyU
    rw [List.length_map]
    rcases List.mem_append.1 hv with h | h
    · have := fa.2 v h; omega
    · have := fb.2 v h; omega
theorem finU_of {l : List TPublished} (h : l.length ≤ maxLen ∧ ∀ e0 ∈ l, ((e0.f0.length ≤ maxLen ∧ ∀ e1 ∈ e0.f0, ((Lit.int .i64 e1.f0).wf = true ∧ ((Lit.int .i64 e1.f1).wf = true ∧ e1.f2.size ≤ maxLen))) ∧ (Lit.int .i64 e0.f1).wf = true)) : FinU l ∧ wfU l := by
  refine ⟨⟨by have := h.1; simp only [maxLen] at this; omega, fun e he => by have := (h.2 e he).1.1; simp only [maxLen] at this; omega⟩, fun u hu => ?_⟩
  have := (h.2 u hu).2
  simp only [Lit.wf, Bool.and_eq_true, decide_eq_true_eq] at this
  have m1 : IntKind.i64.min = -9223372036854775808 := rfl
  have m2 : IntKind.i64.max = 9223372036854775807 := rfl
  rw [m1, m2] at this
  exact this
theorem ReleaseFinds_std (x0 : (List TPublished)) (x1 : (List TPublished)) (x2 : (List TValue)) (h0 : (x0.length ≤ maxLen ∧ ∀ e0 ∈ x0, ((e0.f0.length ≤ maxLen ∧ ∀ e1 ∈ e0.f0, ((Lit.int .i64 e1.f0).wf = true ∧ ((Lit.int .i64 e1.f1).wf = true ∧ e1.f2.size ≤ maxLen))) ∧ (Lit.int .i64 e0.f1).wf = true))) (h1 : (x1.length ≤ maxLen ∧ ∀ e0 ∈ x1, ((e0.f0.length ≤ maxLen ∧ ∀ e1 ∈ e0.f0, ((Lit.int .i64 e1.f0).wf = true ∧ ((Lit.int .i64 e1.f1).wf = true ∧ e1.f2.size ≤ maxLen))) ∧ (Lit.int .i64 e0.f1).wf = true))) (h2 : (x2.length ≤ maxLen ∧ ∀ e0 ∈ x2, ((Lit.int .i64 e0.f0).wf = true ∧ ((Lit.int .i64 e0.f1).wf = true ∧ e0.f2.size ≤ maxLen)))) : ∃ k, erasurelaw35_ReleaseFinds k x0 x1 x2 = some true := by
  obtain ⟨f0, w0⟩ := finU_of h0
  obtain ⟨f1, w1⟩ := finU_of h1
  refine Ev.some (g := fun k => erasurelaw35_ReleaseFinds k x0 x1 x2) ?_
  unfold erasurelaw35_ReleaseFinds
  simp only [decide_eq_true_eq, beq_iff_eq]
  refine Ev.bind (few_ev x0 f0) ?_
  cases q0 : (x0.all (fun e => decide (e.f0.length ≤ 20)) && decide (x0.length ≤ 30)) with
  | false => exact Ev.ite_pos rfl aw35
  | true =>
  refine Ev.ite_neg (by simp) (Ev.bind (few_ev x1 f1) ?_)
  cases q1 : (x1.all (fun e => decide (e.f0.length ≤ 20)) && decide (x1.length ≤ 30)) with
  | false => exact Ev.ite_pos rfl aw35
  | true =>
  simp only [Bool.and_eq_true, decide_eq_true_eq, List.all_eq_true] at q0 q1
  refine Ev.ite_neg (by simp) ?_
  by_cases c : (x2.length : Int) > 20
  · exact Ev.ite_pos c aw35
  have a0 : x0.length ≤ 100000 ∧ ∀ u ∈ x0, u.f0.length ≤ 1000000 := ⟨by omega, fun u hu => by have := q0.1 u hu; omega⟩
  have a1 : x1.length ≤ 100000 ∧ ∀ u ∈ x1, u.f0.length ≤ 1000000 := ⟨by omega, fun u hu => by have := q1.1 u hu; omega⟩
  refine Ev.ite_neg c (Ev.bind (Find_ev x0 x2 f0) (Ev.bind (refFind_ev x0 x2 f0) (Ev.ite_pos rfl (Ev.ite_pos rfl (Ev.bind (Total_ev x0 f0) (Ev.bind (refTotal_ev x0 f0) (Ev.ite_pos rfl ?_)))))))
  refine Ev.bind (Differences_ev x0 x1 a0 a1 w0 w1) (Ev.bind (refDifferences_ev x0 x1 a0 a1 w0 w1) (Ev.bind ((Same_ev (diffS x0 x1) (diffS x0 x1) (diffS_fin a0 a1)).to (by simp)) (Ev.ite_pos rfl aw35)))
end Go.Proofs.YtjhnpaenhdbhpaaV
set_option linter.unusedVariables false
set_option linter.unusedSimpArgs false
set_option linter.constructorNameAsVariable false
namespace Go.Proofs.YtjhnpaenhdbhpaaV
open Go Go.RowKit
def RepL (F : Nat → Prop) (w : World) : List AV → List Value → Prop
  | [], [] => True
  | a :: l, v :: m => Rep F w a v ∧ RepL F w l m
  | _, _ => False
theorem RepL.len {F : Nat → Prop} {w : World} : ∀ {l : List AV} {m : List Value}, RepL F w l m → l.length = m.length
  | [], [], _ => rfl
  | _ :: _, _ :: _, h => by simp [RepL.len h.2]
  | [], _ :: _, h => h.elim
  | _ :: _, [], h => h.elim
theorem RepL.get {F : Nat → Prop} {w : World} : ∀ {l : List AV} {m : List Value}, RepL F w l m → ∀ (i : Nat) (v : Value), m[i]? = some v → Rep F w (l.getD i .u) v
  | [], [], _, i, v, h => by simp at h
  | a :: l, u :: m, h, i, v, hv => by
    cases i with
    | zero =>
      simp only [List.getElem?_cons_zero, Option.some.injEq] at hv
      subst hv
      exact h.1
    | succ i => simpa using RepL.get h.2 i v (by simpa using hv)
  | [], _ :: _, h, _, _, _ => h.elim
  | _ :: _, [], h, _, _, _ => h.elim
theorem RepL.app {F : Nat → Prop} {w : World} : ∀ {l : List AV} {m : List Value} {l' : List AV} {m' : List Value}, RepL F w l m → RepL F w l' m' → RepL F w (l ++ l') (m ++ m')
  | [], [], _, _, _, k => k
  | _ :: _, _ :: _, _, _, h, k => ⟨h.1, RepL.app h.2 k⟩
  | [], _ :: _, _, _, h, _ => h.elim
  | _ :: _, [], _, _, h, _ => h.elim
theorem RepL.fv {F : Nat → Prop} {w : World} {κ : Nat → Value} {hp : List Ob} : ∀ {l : List AV} {m : List Value}, RepL F w l m → RelVs ⟨F, w, κ, hp⟩ (l.map .p) m
  | [], [], _ => by simp [RelVs]
  | a :: l, v :: m, h => by simp only [List.map_cons, RelVs]; exact ⟨v, m, rfl, by simp only [RelV]; exact h.1, RepL.fv h.2⟩
  | [], _ :: _, h => h.elim
  | _ :: _, [], h => h.elim
abbrev oldF (W : World) : Nat → Prop := fun b => b < W.heap.size
structure Op1 {α : Type} (P : Program) (t : TypeId) (c : α → List AV) (B : α → Prop) : Prop where mk ::
  out : ∀ {H : Type} (enc : TypeId × Value → H) (W : World) (fuel : Nat) (cs : List Value) (y : DataW H × List MemPlace), DataW.trod enc P W 0 (fun _ => true) true fuel t cs = some y → ∃ x, RepL (oldF W) W (c x) cs ∧ B x
theorem op1_int {P : Program} {t : TypeId} {k : IntKind} (ht : P.underlying t = some (.int k)) : Op1 P t (cI k) (fun n => (Lit.int k n).wf = true) := by
  constructor
  intro H enc W fuel cs y h
  obtain ⟨n, rfl, _, hw⟩ := DataW.trod_int ht h
  exact ⟨n, ⟨rfl, trivial⟩, hw⟩
theorem op1_string {P : Program} {t : TypeId} (ht : P.underlying t = some .string) : Op1 P t cS (fun s => s.size ≤ maxLen) := by
  constructor
  intro H enc W fuel cs y h
  obtain ⟨n, rfl, _, hs⟩ := DataW.trod_string ht h
  exact ⟨n, ⟨rfl, trivial⟩, hs⟩
theorem cell_add {W : World} {a : Addr} {n : Nat} {u : Value} (h : W.cell? (a.add n) = some u) : W.cell? ⟨a.block, a.off + n, none⟩ = some u := by
  unfold Addr.add at h
  split at h
  · rename_i hn
    subst hn
    have hs : a.spot = none := by
      unfold World.cell? at h
      split at h
      · split at h
        · cases h
        · rename_i hs; cases hq : a.spot with
          | none => rfl
          | some x => simp [hq] at hs
      · cases h
    cases a
    simp only at hs
    subst hs
    exact h
  · exact h
theorem spot_none {W : World} {a : Addr} {u : Value} (h : W.cell? a = some u) : a = ⟨a.block, a.off, none⟩ := by
  have hs : a.spot = none := by
    unfold World.cell? at h
    split at h
    · split at h
      · cases h
      · rename_i hs; cases hq : a.spot with
        | none => rfl
        | some x => simp [hq] at hs
    · cases h
  cases a
  simp only at hs
  subst hs
  rfl
theorem op1_slice {α : Type} {P : Program} {t e : TypeId} {sz : Nat} {c : α → List AV} (d : α) {B : α → Prop} (ht : P.underlying t = some (.slice e)) (hd : Op1 P e c B) (hc : P.cellsOf e = sz) (hs : ∀ x, (c x).length = sz) (h0 : 0 < sz) : Op1 P t (cL sz c d) (fun xs => xs.length ≤ maxLen ∧ ∀ x ∈ xs, B x) := by
  constructor
  intro H enc W fuel cs y h
  rcases DataW.trod_slice ht h with ⟨rfl, _⟩ | ⟨a, len, cap, elems, rest, n, _, rfl, _, _, hl, hm, hel, hat, _, _⟩
  · exact ⟨[], ⟨⟨none, 0, rfl, Nat.le_refl _, fun _ => rfl, .inl rfl⟩, trivial⟩, by simp [maxLen], fun x hx => by cases hx⟩
  · have key : ∀ i, i < len → ∃ x cs', cs'.length = sz ∧ RepL (oldF W) W (c x) cs' ∧ B x ∧ ∀ j u, cs'[j]? = some u → W.cell? (a.add (i * sz + j)) = some u := by
      intro i hi
      have h1 := hat i hi
      rw [List.getElem?_eq_getElem (by omega)] at h1
      obtain ⟨cs', h2, h3⟩ := Option.bind_eq_some_iff.1 h1
      obtain ⟨x, hk, hb⟩ := hd.out enc W n cs' _ h3
      have hlen : cs'.length = sz := by rw [← hs x, hk.len]
      refine ⟨x, cs', hlen, hk, hb, fun j u hu => ?_⟩
      rw [hc] at h2
      unfold World.cells? at h2
      rw [if_pos (Nat.zero_le _)] at h2
      have h4 := mapM_some_get h2 j j (by
        have := (List.getElem?_eq_some_iff.1 hu).1
        rw [hlen] at this
        simp [this])
      rw [hu] at h4
      have ha : (a.add (i * sz)).add j = a.add (i * sz + j) := by
        unfold Addr.add
        by_cases e1 : i * sz = 0 <;> by_cases e2 : j = 0 <;> simp [e1, e2, Nat.add_assoc]
      rw [ha] at h4
      exact h4
    have key2 : ∀ m, m ≤ len → ∃ xs : List α, xs.length = m ∧ (∀ x ∈ xs, B x) ∧ ∀ i x, xs[i]? = some x → ∃ cs', cs'.length = sz ∧ RepL (oldF W) W (c x) cs' ∧ ∀ j u, cs'[j]? = some u → W.cell? (a.add (i * sz + j)) = some u := by
      intro m
      induction m with
      | zero => intro _; exact ⟨[], rfl, fun x hx => (by cases hx), fun i x hx => by simp at hx⟩
      | succ m ih =>
        intro hm2
        obtain ⟨xs, h1, h2, h3⟩ := ih (by omega)
        obtain ⟨x, c', h4, h5, h6, h7⟩ := key m (by omega)
        refine ⟨xs ++ [x], by simp [h1], fun y hy => ?_, fun i y hy => ?_⟩
        · rcases List.mem_append.1 hy with hy | hy
          · exact h2 y hy
          · rw [List.mem_singleton.1 hy]; exact h6
        · rcases Nat.lt_or_ge i xs.length with hi | hi
          · rw [List.getElem?_append_left hi] at hy; exact h3 i y hy
          · have hi2 : i = xs.length := by
              have := (List.getElem?_eq_some_iff.1 hy).1
              simp at this
              omega
            subst hi2
            simp at hy
            subst hy
            rw [h1]
            exact ⟨c', h4, h5, h7⟩
    obtain ⟨xs, h1, h2, h3⟩ := key2 len (Nat.le_refl _)
    refine ⟨xs, ⟨⟨some a, cap, by rw [h1], by rw [h1]; omega, fun h => (nomatch h), ?_⟩, trivial⟩, by rw [h1]; simp only [maxLen] at hm ⊢; omega, h2⟩
    rcases Nat.eq_zero_or_pos len with hz | hz
    · left; rw [h1, hz]
    · right
      have hcell : ∀ i, i < len → ∀ j, j < sz → ∃ u, W.cell? (a.add (i * sz + j)) = some u ∧ Rep (oldF W) W ((c (xs.getD i d)).getD j .u) u := by
        intro i hi j hj
        have hxi : xs[i]? = some (xs.getD i d) := by rw [List.getD_eq_getElem?_getD, List.getElem?_eq_getElem (by omega)]; rfl
        obtain ⟨cs', k1, k2, k3⟩ := h3 i _ hxi
        have hcj : cs'[j]? = some (cs'[j]'(by omega)) := List.getElem?_eq_getElem (by omega)
        exact ⟨_, k3 j _ hcj, k2.get j _ hcj⟩
      obtain ⟨u0, hu0, _⟩ := hcell 0 hz 0 h0
      have ha0 : a.add (0 * sz + 0) = a := by simp [Addr.add]
      rw [ha0] at hu0
      refine ⟨a.block, a.off, by rw [← spot_none hu0], World.block_lt_of_cell? W a hu0, fun i hi j hj => ?_⟩
      rw [h1] at hi
      obtain ⟨u, k1, k2⟩ := hcell i hi j hj
      exact ⟨u, cell_add k1, k2⟩
structure OpFs {α : Type} (P : Program) (fs : List Field) (off sz : Nat) (c : α → List AV) (B : α → Prop) : Prop where mk ::
  out : ∀ {H : Type} (enc : TypeId × Value → H) (W : World) (fuel : Nat) (cs : List Value) (ys : List (DataW H × List MemPlace)), cs.length = off + sz → ys.length = fs.length →
    (∀ (i : Nat) (f : Field), fs[i]? = some f → DataW.trod enc P W 0 (fun _ => true) true fuel f.type ((cs.drop f.offset).take (P.cellsOf f.type)) = ys[i]?) → ∃ x, RepL (oldF W) W (c x) (cs.drop off) ∧ B x
theorem opFs_one {α : Type} {P : Program} {f : Field} {off sz : Nat} {c : α → List AV} {B : α → Prop} (ho : f.offset = off) (hc : P.cellsOf f.type = sz) (hd : Op1 P f.type c B) : OpFs P [f] off sz c B := by
  constructor
  intro H enc W fuel cs ys hl hy h
  have h0 := h 0 f rfl
  rw [List.getElem?_eq_getElem (by rw [hy]; exact Nat.zero_lt_one), ho, hc, List.take_of_length_le (by rw [List.length_drop]; omega)] at h0
  exact hd.out enc W fuel _ _ h0
theorem opFs_cons {α β : Type} {P : Program} {f : Field} {fs : List Field} {off sa sb : Nat} {a : α → List AV} {b : β → List AV} {Ba : α → Prop} {Bb : β → Prop} (ho : f.offset = off) (hc : P.cellsOf f.type = sa) (hd : Op1 P f.type a Ba) (hs : OpFs P fs (off + sa) sb b Bb) :
    OpFs P (f :: fs) off (sa + sb) (fun x : α × β => a x.1 ++ b x.2) (fun x => Ba x.1 ∧ Bb x.2) := by
  constructor
  intro H enc W fuel cs ys hl hy h
  cases ys with
  | nil => simp at hy
  | cons y ys =>
    have h0 := h 0 f rfl
    rw [ho, hc] at h0
    obtain ⟨x, hx, hbx⟩ := hd.out enc W fuel _ _ h0
    obtain ⟨z, hz, hbz⟩ := hs.out enc W fuel cs ys (by omega) (by simpa using hy) (fun i g hg => h (i + 1) g hg)
    refine ⟨(x, z), ?_, hbx, hbz⟩
    have e : cs.drop off = (cs.drop off).take sa ++ cs.drop (off + sa) := by rw [← List.drop_drop, List.take_append_drop]
    rw [e]
    exact hx.app hz
theorem op1_struct {α β : Type} {P : Program} {t : TypeId} {fs : Array Field} {sz : Nat} {c : β → List AV} {B : β → Prop} (c' : α → List AV) (B' : α → Prop) (g : β → α) (hc' : ∀ y, c' (g y) = c y) (hB : ∀ y, B y → B' (g y)) (ht : P.underlying t = some (.struct fs)) (hc : P.cellsOf t = sz) (hs : OpFs P fs.toList 0 sz c B) :
    Op1 P t c' B' := by
  constructor
  intro H enc W fuel cs y h
  obtain ⟨xs, n, _, _, hl, hx, hi⟩ := DataW.trod_struct ht h
  obtain ⟨x, hk, hb⟩ := hs.out enc W n cs xs (by rw [hl, hc]; omega) (by rw [hx]; simp) (fun i f hf => hi i f (by simpa using hf))
  refine ⟨g x, ?_, hB x hb⟩
  rw [hc']
  simpa using hk
theorem chg_below {w w' : World} (h : Chg (fun _ => False) w w') : Below w.heap.size w w' := ⟨h.os, h.tape, h.output, h.size, fun k hk => h.block k hk (fun h => h)⟩
theorem Spec.law {P : Program} {f : FuncId} {args : List FV} (h : Spec P f args (.p (.bool true)) []) {W : World} {vs : Array Value} (hv : RelVs ⟨oldF W, W, fun _ => undef, []⟩ args vs.toList) : Calls P f vs W fun e W' => e = .returned (.bool true) ∧ Below W.heap.size W W' := by
  refine (h W (oldF W) (fun _ => undef) vs (fun _ h => h) hv).mono fun e W' ⟨v, F', κ', he, hI, hr⟩ => ⟨?_, chg_below hI.chg⟩
  simp only [RelV, Rep] at hr
  rw [he, hr]
end Go.Proofs.YtjhnpaenhdbhpaaV
