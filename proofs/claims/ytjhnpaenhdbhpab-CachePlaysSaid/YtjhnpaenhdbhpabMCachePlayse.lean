/- Part of the proof of CachePlays: printed by programs of this repo out of the translation, and by hand. Each theorem's conditions stand in its statement. -/
import Derived.WideShapes
import Derived.ProofKit
import Derived.OpenShut
import Derived.ShutString
import Derived.ChangeOld
import Derived.SizedLaws
import Derived.ChangeSlices
import Derived.Orders
import Derived.Below
import Derived.Laws.AppendOwn
import Derived.Laws.OwnMore
import Derived.KernelRfl
import Derived.Test.YtjhnpaenhdbhpabMCachePlaysa
import Derived.Test.YtjhnpaenhdbhpabMCachePlaysb
import Derived.Test.YtjhnpaenhdbhpabMCachePlaysc
import Derived.Test.YtjhnpaenhdbhpabMCachePlaysd
set_option linter.unusedVariables false
set_option linter.unusedSimpArgs false
set_option maxRecDepth 100000
namespace Go.Proofs.YtjhnpaenhdbhpabV
open Go Go.RowKit
noncomputable def erasurelaw30_CacheRaw  (k : Nat) (c0 : TCache) (s1 : (List TCached)) (a2 : TAct) : Option Bool := (erasurelaw30_small k s1).bind fun y_1 => (if (!y_1) = true then ((erasurelaw30_awake k ).bind fun y_4 => (some y_4)) else ((cache_Lookup k c0 s1 ([(TEntry.mk ([a2.f1]) 1)]) a2.f1 a2.f2).bind fun y_6 => ((erasureref30_Lookup k c0 s1 ([(TEntry.mk ([a2.f1]) 1)]) a2.f1 a2.f2).bind fun y_8 => ((cache_Valid k s1).bind fun y_10 => ((erasureref30_Valid k s1).bind fun y_12 => (if (y_10 == y_12) = true then (if (y_6.2.2 == y_8.2.2) = true then ((erasureref30_Same k y_6.1 y_8.1).bind fun y_16 => (if y_16 = true then ((erasureref26_SameBag k y_6.2.1 y_8.2.1).bind fun y_19 => (if y_19 = true then ((cache_Refill k c0 s1 ([(TEntry.mk ([a2.f1]) 1)]) a2.f2).bind fun y_22 => ((erasureref30_Refill k c0 s1 ([(TEntry.mk ([a2.f1]) 1)]) a2.f2).bind fun y_24 => ((erasureref30_Same k y_22 y_24).bind fun y_26 => (if y_26 = true then ((cache_Purge k s1 ([a2.f1])).bind fun y_29 => ((erasureref30_Purge k s1 ([a2.f1])).bind fun y_31 => ((erasureref30_Same k y_29 y_31).bind fun y_33 => (if y_33 = true then ((cache_Expire k c0 s1 a2.f2).bind fun y_36 => ((erasureref30_Expire k c0 s1 a2.f2).bind fun y_38 => ((erasureref30_Same k y_36 y_38).bind fun y_40 => (if y_40 = true then ((cache_Fresh k c0 s1 ([(TEntry.mk ([a2.f1]) 1)])).bind fun y_43 => ((erasureref30_Fresh k c0 s1 ([(TEntry.mk ([a2.f1]) 1)])).bind fun y_45 => (if (y_43 == y_45) = true then ((erasurelaw30_awake k ).bind fun y_48 => (some y_48)) else (some false)))) else (some false))))) else (some false))))) else (some false))))) else (some false))) else (some false))) else (some false)) else (some false)))))))
noncomputable def erasurelaw30_CacheRaw.t : List Item := [.code (bodyOf Try.f7)]
noncomputable def erasurelaw30_CacheRaw.s (c0 : TCache) (s1 : (List TCached)) (a2 : TAct) : St := ⟨frOf Try.f7.ntmps 0 [(0, .agg ((cCache c0).map .p)), (1, .p (eL 5 cCached dCached s1)), (2, .agg ((cAct a2).map .p))], []⟩
theorem erasurelaw30_CacheRaw.run   {k : Nat} {c0 : TCache} {s1 : (List TCached)} {a2 : TAct} {r : Bool} (h : erasurelaw30_CacheRaw k c0 s1 a2 = some r) : RunC Try.prog Try.f7 erasurelaw30_CacheRaw.t (erasurelaw30_CacheRaw.s c0 s1 a2) (.p (.bool r)) [] := by
  unfold erasurelaw30_CacheRaw at h
  obtain ⟨y_1, e_2, h⟩ := bind_or h
  rcases ite_or h with ⟨g_3, h⟩ | ⟨g_3, h⟩
  · obtain ⟨y_4, e_5, h⟩ := bind_or h
    obtain rfl := Option.some.inj h
    exact RunC.out [.n 4, .r [(1, .call (.p (.bool y_1)) []), (2, .dec true)], .n 2, .r [(0, .call (.p (.bool y_4)) [])]] (by kernel_rfl) (Obs.of (by kernel_rfl) (And.intro (erasurelaw30_small.spec e_2) (And.intro g_3 (erasurelaw30_awake.spec e_5))))
  · obtain ⟨y_6, e_7, h⟩ := bind_or h
    obtain ⟨y_8, e_9, h⟩ := bind_or h
    obtain ⟨y_10, e_11, h⟩ := bind_or h
    obtain ⟨y_12, e_13, h⟩ := bind_or h
    rcases ite_or h with ⟨g_14, h⟩ | ⟨g_14, h⟩
    · rcases ite_or h with ⟨g_15, h⟩ | ⟨g_15, h⟩
      · obtain ⟨y_16, e_17, h⟩ := bind_or h
        rcases ite_or h with ⟨g_18, h⟩ | ⟨g_18, h⟩
        · obtain ⟨y_19, e_20, h⟩ := bind_or h
          rcases ite_or h with ⟨g_21, h⟩ | ⟨g_21, h⟩
          · obtain ⟨y_22, e_23, h⟩ := bind_or h
            obtain ⟨y_24, e_25, h⟩ := bind_or h
            obtain ⟨y_26, e_27, h⟩ := bind_or h
            rcases ite_or h with ⟨g_28, h⟩ | ⟨g_28, h⟩
            · obtain ⟨y_29, e_30, h⟩ := bind_or h
              obtain ⟨y_31, e_32, h⟩ := bind_or h
              obtain ⟨y_33, e_34, h⟩ := bind_or h
              rcases ite_or h with ⟨g_35, h⟩ | ⟨g_35, h⟩
              · obtain ⟨y_36, e_37, h⟩ := bind_or h
                obtain ⟨y_38, e_39, h⟩ := bind_or h
                obtain ⟨y_40, e_41, h⟩ := bind_or h
                rcases ite_or h with ⟨g_42, h⟩ | ⟨g_42, h⟩
                · obtain ⟨y_43, e_44, h⟩ := bind_or h
                  obtain ⟨y_45, e_46, h⟩ := bind_or h
                  rcases ite_or h with ⟨g_47, h⟩ | ⟨g_47, h⟩
                  · obtain ⟨y_48, e_49, h⟩ := bind_or h
                    obtain rfl := Option.some.inj h
                    exact RunC.out [.n 4, .r [(1, .call (.p (.bool y_1)) []), (2, .dec false)], .n 3, .r [(2, .obj (oL true 24 3 cValue dValue [a2.f1])), (4, .obj (oL true 36 2 cEntry dEntry [(TEntry.mk ([a2.f1]) 1)]))], .n 1, .r [(7, .call (.tup [.sref 0 46 5 (y_6.1).length, .sref 1 36 2 (y_6.2.1).length, .p (.int .i64 y_6.2.2)]) [(oL true 46 5 cCached dCached y_6.1), (oL true 36 2 cEntry dEntry y_6.2.1)])], .n 1, .r [(7, .call (.tup [.sref 0 46 5 (y_8.1).length, .p (eL 2 cEntry dEntry y_8.2.1), .p (.int .i64 y_8.2.2)]) [(oL true 46 5 cCached dCached y_8.1)])], .n 1, .r [(2, .obj (oL true 24 3 cValue dValue [a2.f1]))], .n 1, .r [(1, .call (.p (.bool y_10)) []), (3, .call (.p (.bool y_12)) []), (5, .dec true), (10, .dec true), (13, .call (.p (.bool y_16)) []), (15, .dec true), (18, .call (.p (.bool y_19)) []), (20, .dec true), (26, .call (.sref 0 46 5 (y_22).length) [(oL true 46 5 cCached dCached y_22)]), (32, .call (.sref 0 46 5 (y_24).length) [(oL true 46 5 cCached dCached y_24)]), (33, .call (.p (.bool y_26)) []), (35, .dec true), (38, .call (.sref 0 46 5 (y_29).length) [(oL true 46 5 cCached dCached y_29)]), (41, .call (.p (eL 5 cCached dCached y_31)) []), (42, .call (.p (.bool y_33)) []), (44, .dec true), (49, .call (.sref 0 46 5 (y_36).length) [(oL true 46 5 cCached dCached y_36)]), (54, .call (.sref 0 46 5 (y_38).length) [(oL true 46 5 cCached dCached y_38)]), (55, .call (.p (.bool y_40)) []), (57, .dec true), (61, .call (.p (.bool y_43)) []), (65, .call (.p (.bool y_45)) []), (68, .dec true), (69, .call (.p (.bool y_48)) [])]] (by kernel_rfl) (Obs.of (by kernel_rfl) (And.intro (erasurelaw30_small.spec e_2) (And.intro (nt g_3) (And.intro (le_one 24 3 cValue dValue a2.f1) (And.intro (le_one 36 2 cEntry dEntry (TEntry.mk ([a2.f1]) 1)) (And.intro (cache_Lookup.spec e_7) (And.intro (erasureref30_Lookup.spec e_9) (And.intro (le_one 24 3 cValue dValue a2.f1) (And.intro (cache_Valid.spec e_11) (And.intro (erasureref30_Valid.spec e_13) (And.intro g_14 (And.intro g_15 (And.intro (erasureref30_Same.spec e_17) (And.intro g_18 (And.intro (erasureref26_SameBag.spec e_20) (And.intro g_21 (And.intro (cache_Refill.spec e_23) (And.intro (erasureref30_Refill.spec e_25) (And.intro (erasureref30_Same.spec e_27) (And.intro g_28 (And.intro (cache_Purge.spec e_30) (And.intro (erasureref30_Purge.spec e_32) (And.intro (erasureref30_Same.spec e_34) (And.intro g_35 (And.intro (cache_Expire.spec e_37) (And.intro (erasureref30_Expire.spec e_39) (And.intro (erasureref30_Same.spec e_41) (And.intro g_42 (And.intro (cache_Fresh.spec e_44) (And.intro (erasureref30_Fresh.spec e_46) (And.intro g_47 (erasurelaw30_awake.spec e_49))))))))))))))))))))))))))))))))
                  · obtain rfl := Option.some.inj h
                    exact RunC.out [.n 4, .r [(1, .call (.p (.bool y_1)) []), (2, .dec false)], .n 3, .r [(2, .obj (oL true 24 3 cValue dValue [a2.f1])), (4, .obj (oL true 36 2 cEntry dEntry [(TEntry.mk ([a2.f1]) 1)]))], .n 1, .r [(7, .call (.tup [.sref 0 46 5 (y_6.1).length, .sref 1 36 2 (y_6.2.1).length, .p (.int .i64 y_6.2.2)]) [(oL true 46 5 cCached dCached y_6.1), (oL true 36 2 cEntry dEntry y_6.2.1)])], .n 1, .r [(7, .call (.tup [.sref 0 46 5 (y_8.1).length, .p (eL 2 cEntry dEntry y_8.2.1), .p (.int .i64 y_8.2.2)]) [(oL true 46 5 cCached dCached y_8.1)])], .n 1, .r [(2, .obj (oL true 24 3 cValue dValue [a2.f1]))], .n 1, .r [(1, .call (.p (.bool y_10)) []), (3, .call (.p (.bool y_12)) []), (5, .dec true), (10, .dec true), (13, .call (.p (.bool y_16)) []), (15, .dec true), (18, .call (.p (.bool y_19)) []), (20, .dec true), (26, .call (.sref 0 46 5 (y_22).length) [(oL true 46 5 cCached dCached y_22)]), (32, .call (.sref 0 46 5 (y_24).length) [(oL true 46 5 cCached dCached y_24)]), (33, .call (.p (.bool y_26)) []), (35, .dec true), (38, .call (.sref 0 46 5 (y_29).length) [(oL true 46 5 cCached dCached y_29)]), (41, .call (.p (eL 5 cCached dCached y_31)) []), (42, .call (.p (.bool y_33)) []), (44, .dec true), (49, .call (.sref 0 46 5 (y_36).length) [(oL true 46 5 cCached dCached y_36)]), (54, .call (.sref 0 46 5 (y_38).length) [(oL true 46 5 cCached dCached y_38)]), (55, .call (.p (.bool y_40)) []), (57, .dec true), (61, .call (.p (.bool y_43)) []), (65, .call (.p (.bool y_45)) []), (68, .dec false)]] (by kernel_rfl) (Obs.of (by kernel_rfl) (And.intro (erasurelaw30_small.spec e_2) (And.intro (nt g_3) (And.intro (le_one 24 3 cValue dValue a2.f1) (And.intro (le_one 36 2 cEntry dEntry (TEntry.mk ([a2.f1]) 1)) (And.intro (cache_Lookup.spec e_7) (And.intro (erasureref30_Lookup.spec e_9) (And.intro (le_one 24 3 cValue dValue a2.f1) (And.intro (cache_Valid.spec e_11) (And.intro (erasureref30_Valid.spec e_13) (And.intro g_14 (And.intro g_15 (And.intro (erasureref30_Same.spec e_17) (And.intro g_18 (And.intro (erasureref26_SameBag.spec e_20) (And.intro g_21 (And.intro (cache_Refill.spec e_23) (And.intro (erasureref30_Refill.spec e_25) (And.intro (erasureref30_Same.spec e_27) (And.intro g_28 (And.intro (cache_Purge.spec e_30) (And.intro (erasureref30_Purge.spec e_32) (And.intro (erasureref30_Same.spec e_34) (And.intro g_35 (And.intro (cache_Expire.spec e_37) (And.intro (erasureref30_Expire.spec e_39) (And.intro (erasureref30_Same.spec e_41) (And.intro g_42 (And.intro (cache_Fresh.spec e_44) (And.intro (erasureref30_Fresh.spec e_46) (nt g_47)))))))))))))))))))))))))))))))
                · obtain rfl := Option.some.inj h
                  exact RunC.out [.n 4, .r [(1, .call (.p (.bool y_1)) []), (2, .dec false)], .n 3, .r [(2, .obj (oL true 24 3 cValue dValue [a2.f1])), (4, .obj (oL true 36 2 cEntry dEntry [(TEntry.mk ([a2.f1]) 1)]))], .n 1, .r [(7, .call (.tup [.sref 0 46 5 (y_6.1).length, .sref 1 36 2 (y_6.2.1).length, .p (.int .i64 y_6.2.2)]) [(oL true 46 5 cCached dCached y_6.1), (oL true 36 2 cEntry dEntry y_6.2.1)])], .n 1, .r [(7, .call (.tup [.sref 0 46 5 (y_8.1).length, .p (eL 2 cEntry dEntry y_8.2.1), .p (.int .i64 y_8.2.2)]) [(oL true 46 5 cCached dCached y_8.1)])], .n 1, .r [(2, .obj (oL true 24 3 cValue dValue [a2.f1]))], .n 1, .r [(1, .call (.p (.bool y_10)) []), (3, .call (.p (.bool y_12)) []), (5, .dec true), (10, .dec true), (13, .call (.p (.bool y_16)) []), (15, .dec true), (18, .call (.p (.bool y_19)) []), (20, .dec true), (26, .call (.sref 0 46 5 (y_22).length) [(oL true 46 5 cCached dCached y_22)]), (32, .call (.sref 0 46 5 (y_24).length) [(oL true 46 5 cCached dCached y_24)]), (33, .call (.p (.bool y_26)) []), (35, .dec true), (38, .call (.sref 0 46 5 (y_29).length) [(oL true 46 5 cCached dCached y_29)]), (41, .call (.p (eL 5 cCached dCached y_31)) []), (42, .call (.p (.bool y_33)) []), (44, .dec true), (49, .call (.sref 0 46 5 (y_36).length) [(oL true 46 5 cCached dCached y_36)]), (54, .call (.sref 0 46 5 (y_38).length) [(oL true 46 5 cCached dCached y_38)]), (55, .call (.p (.bool y_40)) []), (57, .dec false)]] (by kernel_rfl) (Obs.of (by kernel_rfl) (And.intro (erasurelaw30_small.spec e_2) (And.intro (nt g_3) (And.intro (le_one 24 3 cValue dValue a2.f1) (And.intro (le_one 36 2 cEntry dEntry (TEntry.mk ([a2.f1]) 1)) (And.intro (cache_Lookup.spec e_7) (And.intro (erasureref30_Lookup.spec e_9) (And.intro (le_one 24 3 cValue dValue a2.f1) (And.intro (cache_Valid.spec e_11) (And.intro (erasureref30_Valid.spec e_13) (And.intro g_14 (And.intro g_15 (And.intro (erasureref30_Same.spec e_17) (And.intro g_18 (And.intro (erasureref26_SameBag.spec e_20) (And.intro g_21 (And.intro (cache_Refill.spec e_23) (And.intro (erasureref30_Refill.spec e_25) (And.intro (erasureref30_Same.spec e_27) (And.intro g_28 (And.intro (cache_Purge.spec e_30) (And.intro (erasureref30_Purge.spec e_32) (And.intro (erasureref30_Same.spec e_34) (And.intro g_35 (And.intro (cache_Expire.spec e_37) (And.intro (erasureref30_Expire.spec e_39) (And.intro (erasureref30_Same.spec e_41) (nt g_42))))))))))))))))))))))))))))
              · obtain rfl := Option.some.inj h
                exact RunC.out [.n 4, .r [(1, .call (.p (.bool y_1)) []), (2, .dec false)], .n 3, .r [(2, .obj (oL true 24 3 cValue dValue [a2.f1])), (4, .obj (oL true 36 2 cEntry dEntry [(TEntry.mk ([a2.f1]) 1)]))], .n 1, .r [(7, .call (.tup [.sref 0 46 5 (y_6.1).length, .sref 1 36 2 (y_6.2.1).length, .p (.int .i64 y_6.2.2)]) [(oL true 46 5 cCached dCached y_6.1), (oL true 36 2 cEntry dEntry y_6.2.1)])], .n 1, .r [(7, .call (.tup [.sref 0 46 5 (y_8.1).length, .p (eL 2 cEntry dEntry y_8.2.1), .p (.int .i64 y_8.2.2)]) [(oL true 46 5 cCached dCached y_8.1)])], .n 1, .r [(2, .obj (oL true 24 3 cValue dValue [a2.f1]))], .n 1, .r [(1, .call (.p (.bool y_10)) []), (3, .call (.p (.bool y_12)) []), (5, .dec true), (10, .dec true), (13, .call (.p (.bool y_16)) []), (15, .dec true), (18, .call (.p (.bool y_19)) []), (20, .dec true), (26, .call (.sref 0 46 5 (y_22).length) [(oL true 46 5 cCached dCached y_22)]), (32, .call (.sref 0 46 5 (y_24).length) [(oL true 46 5 cCached dCached y_24)]), (33, .call (.p (.bool y_26)) []), (35, .dec true), (38, .call (.sref 0 46 5 (y_29).length) [(oL true 46 5 cCached dCached y_29)]), (41, .call (.p (eL 5 cCached dCached y_31)) []), (42, .call (.p (.bool y_33)) []), (44, .dec false)]] (by kernel_rfl) (Obs.of (by kernel_rfl) (And.intro (erasurelaw30_small.spec e_2) (And.intro (nt g_3) (And.intro (le_one 24 3 cValue dValue a2.f1) (And.intro (le_one 36 2 cEntry dEntry (TEntry.mk ([a2.f1]) 1)) (And.intro (cache_Lookup.spec e_7) (And.intro (erasureref30_Lookup.spec e_9) (And.intro (le_one 24 3 cValue dValue a2.f1) (And.intro (cache_Valid.spec e_11) (And.intro (erasureref30_Valid.spec e_13) (And.intro g_14 (And.intro g_15 (And.intro (erasureref30_Same.spec e_17) (And.intro g_18 (And.intro (erasureref26_SameBag.spec e_20) (And.intro g_21 (And.intro (cache_Refill.spec e_23) (And.intro (erasureref30_Refill.spec e_25) (And.intro (erasureref30_Same.spec e_27) (And.intro g_28 (And.intro (cache_Purge.spec e_30) (And.intro (erasureref30_Purge.spec e_32) (And.intro (erasureref30_Same.spec e_34) (nt g_35))))))))))))))))))))))))
            · obtain rfl := Option.some.inj h
              exact RunC.out [.n 4, .r [(1, .call (.p (.bool y_1)) []), (2, .dec false)], .n 3, .r [(2, .obj (oL true 24 3 cValue dValue [a2.f1])), (4, .obj (oL true 36 2 cEntry dEntry [(TEntry.mk ([a2.f1]) 1)]))], .n 1, .r [(7, .call (.tup [.sref 0 46 5 (y_6.1).length, .sref 1 36 2 (y_6.2.1).length, .p (.int .i64 y_6.2.2)]) [(oL true 46 5 cCached dCached y_6.1), (oL true 36 2 cEntry dEntry y_6.2.1)])], .n 1, .r [(7, .call (.tup [.sref 0 46 5 (y_8.1).length, .p (eL 2 cEntry dEntry y_8.2.1), .p (.int .i64 y_8.2.2)]) [(oL true 46 5 cCached dCached y_8.1)])], .n 1, .r [(2, .obj (oL true 24 3 cValue dValue [a2.f1]))], .n 1, .r [(1, .call (.p (.bool y_10)) []), (3, .call (.p (.bool y_12)) []), (5, .dec true), (10, .dec true), (13, .call (.p (.bool y_16)) []), (15, .dec true), (18, .call (.p (.bool y_19)) []), (20, .dec true), (26, .call (.sref 0 46 5 (y_22).length) [(oL true 46 5 cCached dCached y_22)]), (32, .call (.sref 0 46 5 (y_24).length) [(oL true 46 5 cCached dCached y_24)]), (33, .call (.p (.bool y_26)) []), (35, .dec false)]] (by kernel_rfl) (Obs.of (by kernel_rfl) (And.intro (erasurelaw30_small.spec e_2) (And.intro (nt g_3) (And.intro (le_one 24 3 cValue dValue a2.f1) (And.intro (le_one 36 2 cEntry dEntry (TEntry.mk ([a2.f1]) 1)) (And.intro (cache_Lookup.spec e_7) (And.intro (erasureref30_Lookup.spec e_9) (And.intro (le_one 24 3 cValue dValue a2.f1) (And.intro (cache_Valid.spec e_11) (And.intro (erasureref30_Valid.spec e_13) (And.intro g_14 (And.intro g_15 (And.intro (erasureref30_Same.spec e_17) (And.intro g_18 (And.intro (erasureref26_SameBag.spec e_20) (And.intro g_21 (And.intro (cache_Refill.spec e_23) (And.intro (erasureref30_Refill.spec e_25) (And.intro (erasureref30_Same.spec e_27) (nt g_28))))))))))))))))))))
          · obtain rfl := Option.some.inj h
            exact RunC.out [.n 4, .r [(1, .call (.p (.bool y_1)) []), (2, .dec false)], .n 3, .r [(2, .obj (oL true 24 3 cValue dValue [a2.f1])), (4, .obj (oL true 36 2 cEntry dEntry [(TEntry.mk ([a2.f1]) 1)]))], .n 1, .r [(7, .call (.tup [.sref 0 46 5 (y_6.1).length, .sref 1 36 2 (y_6.2.1).length, .p (.int .i64 y_6.2.2)]) [(oL true 46 5 cCached dCached y_6.1), (oL true 36 2 cEntry dEntry y_6.2.1)])], .n 1, .r [(7, .call (.tup [.sref 0 46 5 (y_8.1).length, .p (eL 2 cEntry dEntry y_8.2.1), .p (.int .i64 y_8.2.2)]) [(oL true 46 5 cCached dCached y_8.1)])], .n 1, .r [(2, .obj (oL true 24 3 cValue dValue [a2.f1]))], .n 1, .r [(1, .call (.p (.bool y_10)) []), (3, .call (.p (.bool y_12)) []), (5, .dec true), (10, .dec true), (13, .call (.p (.bool y_16)) []), (15, .dec true), (18, .call (.p (.bool y_19)) []), (20, .dec false)]] (by kernel_rfl) (Obs.of (by kernel_rfl) (And.intro (erasurelaw30_small.spec e_2) (And.intro (nt g_3) (And.intro (le_one 24 3 cValue dValue a2.f1) (And.intro (le_one 36 2 cEntry dEntry (TEntry.mk ([a2.f1]) 1)) (And.intro (cache_Lookup.spec e_7) (And.intro (erasureref30_Lookup.spec e_9) (And.intro (le_one 24 3 cValue dValue a2.f1) (And.intro (cache_Valid.spec e_11) (And.intro (erasureref30_Valid.spec e_13) (And.intro g_14 (And.intro g_15 (And.intro (erasureref30_Same.spec e_17) (And.intro g_18 (And.intro (erasureref26_SameBag.spec e_20) (nt g_21))))))))))))))))
        · obtain rfl := Option.some.inj h
          exact RunC.out [.n 4, .r [(1, .call (.p (.bool y_1)) []), (2, .dec false)], .n 3, .r [(2, .obj (oL true 24 3 cValue dValue [a2.f1])), (4, .obj (oL true 36 2 cEntry dEntry [(TEntry.mk ([a2.f1]) 1)]))], .n 1, .r [(7, .call (.tup [.sref 0 46 5 (y_6.1).length, .sref 1 36 2 (y_6.2.1).length, .p (.int .i64 y_6.2.2)]) [(oL true 46 5 cCached dCached y_6.1), (oL true 36 2 cEntry dEntry y_6.2.1)])], .n 1, .r [(7, .call (.tup [.sref 0 46 5 (y_8.1).length, .p (eL 2 cEntry dEntry y_8.2.1), .p (.int .i64 y_8.2.2)]) [(oL true 46 5 cCached dCached y_8.1)])], .n 1, .r [(2, .obj (oL true 24 3 cValue dValue [a2.f1]))], .n 1, .r [(1, .call (.p (.bool y_10)) []), (3, .call (.p (.bool y_12)) []), (5, .dec true), (10, .dec true), (13, .call (.p (.bool y_16)) []), (15, .dec false)]] (by kernel_rfl) (Obs.of (by kernel_rfl) (And.intro (erasurelaw30_small.spec e_2) (And.intro (nt g_3) (And.intro (le_one 24 3 cValue dValue a2.f1) (And.intro (le_one 36 2 cEntry dEntry (TEntry.mk ([a2.f1]) 1)) (And.intro (cache_Lookup.spec e_7) (And.intro (erasureref30_Lookup.spec e_9) (And.intro (le_one 24 3 cValue dValue a2.f1) (And.intro (cache_Valid.spec e_11) (And.intro (erasureref30_Valid.spec e_13) (And.intro g_14 (And.intro g_15 (And.intro (erasureref30_Same.spec e_17) (nt g_18))))))))))))))
      · obtain rfl := Option.some.inj h
        exact RunC.out [.n 4, .r [(1, .call (.p (.bool y_1)) []), (2, .dec false)], .n 3, .r [(2, .obj (oL true 24 3 cValue dValue [a2.f1])), (4, .obj (oL true 36 2 cEntry dEntry [(TEntry.mk ([a2.f1]) 1)]))], .n 1, .r [(7, .call (.tup [.sref 0 46 5 (y_6.1).length, .sref 1 36 2 (y_6.2.1).length, .p (.int .i64 y_6.2.2)]) [(oL true 46 5 cCached dCached y_6.1), (oL true 36 2 cEntry dEntry y_6.2.1)])], .n 1, .r [(7, .call (.tup [.sref 0 46 5 (y_8.1).length, .p (eL 2 cEntry dEntry y_8.2.1), .p (.int .i64 y_8.2.2)]) [(oL true 46 5 cCached dCached y_8.1)])], .n 1, .r [(2, .obj (oL true 24 3 cValue dValue [a2.f1]))], .n 1, .r [(1, .call (.p (.bool y_10)) []), (3, .call (.p (.bool y_12)) []), (5, .dec true), (10, .dec false)]] (by kernel_rfl) (Obs.of (by kernel_rfl) (And.intro (erasurelaw30_small.spec e_2) (And.intro (nt g_3) (And.intro (le_one 24 3 cValue dValue a2.f1) (And.intro (le_one 36 2 cEntry dEntry (TEntry.mk ([a2.f1]) 1)) (And.intro (cache_Lookup.spec e_7) (And.intro (erasureref30_Lookup.spec e_9) (And.intro (le_one 24 3 cValue dValue a2.f1) (And.intro (cache_Valid.spec e_11) (And.intro (erasureref30_Valid.spec e_13) (And.intro g_14 (nt g_15))))))))))))
    · obtain rfl := Option.some.inj h
      exact RunC.out [.n 4, .r [(1, .call (.p (.bool y_1)) []), (2, .dec false)], .n 3, .r [(2, .obj (oL true 24 3 cValue dValue [a2.f1])), (4, .obj (oL true 36 2 cEntry dEntry [(TEntry.mk ([a2.f1]) 1)]))], .n 1, .r [(7, .call (.tup [.sref 0 46 5 (y_6.1).length, .sref 1 36 2 (y_6.2.1).length, .p (.int .i64 y_6.2.2)]) [(oL true 46 5 cCached dCached y_6.1), (oL true 36 2 cEntry dEntry y_6.2.1)])], .n 1, .r [(7, .call (.tup [.sref 0 46 5 (y_8.1).length, .p (eL 2 cEntry dEntry y_8.2.1), .p (.int .i64 y_8.2.2)]) [(oL true 46 5 cCached dCached y_8.1)])], .n 1, .r [(2, .obj (oL true 24 3 cValue dValue [a2.f1]))], .n 1, .r [(1, .call (.p (.bool y_10)) []), (3, .call (.p (.bool y_12)) []), (5, .dec false)]] (by kernel_rfl) (Obs.of (by kernel_rfl) (And.intro (erasurelaw30_small.spec e_2) (And.intro (nt g_3) (And.intro (le_one 24 3 cValue dValue a2.f1) (And.intro (le_one 36 2 cEntry dEntry (TEntry.mk ([a2.f1]) 1)) (And.intro (cache_Lookup.spec e_7) (And.intro (erasureref30_Lookup.spec e_9) (And.intro (le_one 24 3 cValue dValue a2.f1) (And.intro (cache_Valid.spec e_11) (And.intro (erasureref30_Valid.spec e_13) (nt g_14)))))))))))
theorem erasurelaw30_CacheRaw.mono   : ∀ (k k' : Nat) (c0 : TCache) (s1 : (List TCached)) (a2 : TAct) (r : Bool), k ≤ k' → erasurelaw30_CacheRaw k c0 s1 a2 = some r → erasurelaw30_CacheRaw k' c0 s1 a2 = some r := by
  intro k k' c0 s1 a2 r hk h
  unfold erasurelaw30_CacheRaw at h ⊢
  obtain ⟨y_1, e_2, h⟩ := bind_or h
  refine bnd (erasurelaw30_small.mono _ _ _ _ hk e_2) ?_
  rcases ite_or h with ⟨g_3, h⟩ | ⟨g_3, h⟩
  · refine itp g_3 ?_
    obtain ⟨y_4, e_5, h⟩ := bind_or h
    refine bnd (erasurelaw30_awake.mono _ _  _ hk e_5) ?_
    exact h
  · refine itn g_3 ?_
    obtain ⟨y_6, e_7, h⟩ := bind_or h
    refine bnd (cache_Lookup.mono _ _ _ _ _ _ _ _ hk e_7) ?_
    obtain ⟨y_8, e_9, h⟩ := bind_or h
    refine bnd (erasureref30_Lookup.mono _ _ _ _ _ _ _ _ hk e_9) ?_
    obtain ⟨y_10, e_11, h⟩ := bind_or h
    refine bnd (cache_Valid.mono _ _ _ _ hk e_11) ?_
    obtain ⟨y_12, e_13, h⟩ := bind_or h
    refine bnd (erasureref30_Valid.mono _ _ _ _ hk e_13) ?_
    rcases ite_or h with ⟨g_14, h⟩ | ⟨g_14, h⟩
    · refine itp g_14 ?_
      rcases ite_or h with ⟨g_15, h⟩ | ⟨g_15, h⟩
      · refine itp g_15 ?_
        obtain ⟨y_16, e_17, h⟩ := bind_or h
        refine bnd (erasureref30_Same.mono _ _ _ _ _ hk e_17) ?_
        rcases ite_or h with ⟨g_18, h⟩ | ⟨g_18, h⟩
        · refine itp g_18 ?_
          obtain ⟨y_19, e_20, h⟩ := bind_or h
          refine bnd (erasureref26_SameBag.mono _ _ _ _ _ hk e_20) ?_
          rcases ite_or h with ⟨g_21, h⟩ | ⟨g_21, h⟩
          · refine itp g_21 ?_
            obtain ⟨y_22, e_23, h⟩ := bind_or h
            refine bnd (cache_Refill.mono _ _ _ _ _ _ _ hk e_23) ?_
            obtain ⟨y_24, e_25, h⟩ := bind_or h
            refine bnd (erasureref30_Refill.mono _ _ _ _ _ _ _ hk e_25) ?_
            obtain ⟨y_26, e_27, h⟩ := bind_or h
            refine bnd (erasureref30_Same.mono _ _ _ _ _ hk e_27) ?_
            rcases ite_or h with ⟨g_28, h⟩ | ⟨g_28, h⟩
            · refine itp g_28 ?_
              obtain ⟨y_29, e_30, h⟩ := bind_or h
              refine bnd (cache_Purge.mono _ _ _ _ _ hk e_30) ?_
              obtain ⟨y_31, e_32, h⟩ := bind_or h
              refine bnd (erasureref30_Purge.mono _ _ _ _ _ hk e_32) ?_
              obtain ⟨y_33, e_34, h⟩ := bind_or h
              refine bnd (erasureref30_Same.mono _ _ _ _ _ hk e_34) ?_
              rcases ite_or h with ⟨g_35, h⟩ | ⟨g_35, h⟩
              · refine itp g_35 ?_
                obtain ⟨y_36, e_37, h⟩ := bind_or h
                refine bnd (cache_Expire.mono _ _ _ _ _ _ hk e_37) ?_
                obtain ⟨y_38, e_39, h⟩ := bind_or h
                refine bnd (erasureref30_Expire.mono _ _ _ _ _ _ hk e_39) ?_
                obtain ⟨y_40, e_41, h⟩ := bind_or h
                refine bnd (erasureref30_Same.mono _ _ _ _ _ hk e_41) ?_
                rcases ite_or h with ⟨g_42, h⟩ | ⟨g_42, h⟩
                · refine itp g_42 ?_
                  obtain ⟨y_43, e_44, h⟩ := bind_or h
                  refine bnd (cache_Fresh.mono _ _ _ _ _ _ hk e_44) ?_
                  obtain ⟨y_45, e_46, h⟩ := bind_or h
                  refine bnd (erasureref30_Fresh.mono _ _ _ _ _ _ hk e_46) ?_
                  rcases ite_or h with ⟨g_47, h⟩ | ⟨g_47, h⟩
                  · refine itp g_47 ?_
                    obtain ⟨y_48, e_49, h⟩ := bind_or h
                    refine bnd (erasurelaw30_awake.mono _ _  _ hk e_49) ?_
                    exact h
                  · refine itn g_47 ?_
                    exact h
                · refine itn g_42 ?_
                  exact h
              · refine itn g_35 ?_
                exact h
            · refine itn g_28 ?_
              exact h
          · refine itn g_21 ?_
            exact h
        · refine itn g_18 ?_
          exact h
      · refine itn g_15 ?_
        exact h
    · refine itn g_14 ?_
      exact h
theorem erasurelaw30_CacheRaw.spec {k : Nat} {c0 : TCache} {s1 : (List TCached)} {a2 : TAct} {r : Bool} (h : erasurelaw30_CacheRaw k c0 s1 a2 = some r) : Spec Try.prog 7 [.agg ((cCache c0).map .p), .p (eL 5 cCached dCached s1), .agg ((cAct a2).map .p)] (.p (.bool r)) [] :=
  spec_of mix Try.func7 (body := bodyOf Try.f7) (by kernel_rfl) (by kernel_rfl) (erasurelaw30_CacheRaw.run h)
end Go.Proofs.YtjhnpaenhdbhpabV
set_option linter.unusedVariables false
set_option linter.unusedSimpArgs false
namespace Go.Proofs.YtjhnpaenhdbhpabV
open Go Go.RowKit
def Ev {α : Type} (g : Nat → Option α) (r : α) : Prop := ∃ K, ∀ k, K ≤ k → g k = some r
theorem Ev.now {α : Type} (r : α) : Ev (fun _ => some r) r := ⟨0, fun _ _ => rfl⟩
theorem Ev.any {α : Type} {g : Nat → Option α} {r : α} (h : ∀ k, g k = some r) : Ev g r := ⟨0, fun k _ => h k⟩
theorem Ev.done {α : Type} {a r : α} (h : a = r) : Ev (fun _ => some a) r := by subst h; exact Ev.now _
theorem Ev.bind {α β : Type} {f : Nat → Option α} {g : Nat → α → Option β} {a : α} {r : β} (h : Ev f a) (h' : Ev (fun k => g k a) r) : Ev (fun k => (f k).bind (g k)) r := by
  obtain ⟨K, h⟩ := h; obtain ⟨L, h'⟩ := h'
  exact ⟨max K L, fun k hk => by show (f k).bind (g k) = some r; rw [h k (by omega)]; exact h' k (by omega)⟩
theorem Ev.succ {α : Type} {g : Nat → Option α} {r : α} (h : Ev (fun k => g (k + 1)) r) : Ev g r := by
  obtain ⟨K, h⟩ := h
  exact ⟨K + 1, fun k hk => by obtain ⟨m, rfl⟩ : ∃ m, k = m + 1 := ⟨k - 1, by omega⟩; exact h m (by omega)⟩
theorem Ev.congr {α : Type} {f g : Nat → Option α} {r : α} (h : ∀ k, g k = f k) (k : Ev f r) : Ev g r := by rw [show g = f from funext h]; exact k
theorem Ev.ite_pos {α : Type} {g f : Nat → Option α} {r : α} {c : Prop} [Decidable c] (h : c) (k : Ev g r) : Ev (fun n => if c then g n else f n) r := Ev.congr (fun n => if_pos h) k
theorem Ev.ite_neg {α : Type} {g f : Nat → Option α} {r : α} {c : Prop} [Decidable c] (h : ¬ c) (k : Ev f r) : Ev (fun n => if c then g n else f n) r := Ev.congr (fun n => if_neg h) k
theorem Ev.of {α : Type} {g : Nat → Option α} {r : α} (m : ∀ k k', k ≤ k' → g k = some r → g k' = some r) {k : Nat} (h : g k = some r) : Ev g r := ⟨k, fun k' hk => m k k' hk h⟩
theorem Ev.some {α : Type} {g : Nat → Option α} {r : α} (h : Ev g r) : ∃ k, g k = Option.some r := by obtain ⟨K, h⟩ := h; exact ⟨K, h K (Nat.le_refl _)⟩
theorem Ev.to {α : Type} {g : Nat → Option α} {r s : α} (h : Ev g r) (e : r = s) : Ev g s := by subst e; exact h
theorem bytes_ext {a b : ByteArray} (h : a.data.toList = b.data.toList) : a = b := by
  cases a; cases b; congr 1; exact Array.toList_inj.1 h
theorem bytes_beq (a b : ByteArray) : (a.data.toList == b.data.toList) = decide (a = b) := by
  rw [Bool.eq_iff_iff, beq_iff_eq, decide_eq_true_eq]; exact ⟨bytes_ext, fun h => by rw [h]⟩
theorem loop_down {P : Nat → Prop} (n : Nat) (hend : P n) (hstep : ∀ i, i < n → P (i + 1) → P i) : ∀ i, i ≤ n → P i := by
  intro i hi
  have key : ∀ d i, i + d = n → P i := by
    intro d
    induction d with
    | zero => intro i h; have : i = n := by omega
              rw [this]; exact hend
    | succ d ih => intro i h; exact hstep i (by omega) (ih (i + 1) (by omega))
  exact key (n - i) i (by omega)
theorem wr {n : Int} (h : -9223372036854775808 ≤ n ∧ n ≤ 9223372036854775807) : IntKind.i64.wrap n = n := by rw [IntKind.wrap_i64]; omega
theorem wrn {i n : Nat} (h : i < n) (hn : n ≤ 9223372036854775807) : IntKind.i64.wrap ((i : Int) + 1) = ((i + 1 : Nat) : Int) := by rw [wr (by omega)]; omega
theorem wrp {i : Nat} (h : 0 < i) (hn : i ≤ 9223372036854775807) : IntKind.i64.wrap ((i : Int) - 1) = ((i - 1 : Nat) : Int) := by rw [wr (by omega)]; omega
theorem drop_cons {α : Type} (z : α) {l : List α} {i : Nat} (h : i < l.length) : l.drop i = l.getD (i : Int).toNat z :: l.drop (i + 1) := by
  rw [List.drop_eq_getElem_cons h]; simp [h]
theorem getD_mem {α : Type} (z : α) {l : List α} {i : Nat} (h : i < l.length) : l.getD (i : Int).toNat z ∈ l := by simp [h]
end Go.Proofs.YtjhnpaenhdbhpabV
set_option linter.unusedVariables false
set_option linter.unusedSimpArgs false
namespace Go.Proofs.YtjhnpaenhdbhpabV
open Go Go.RowKit
theorem V_ext {x y : TValue} (h0 : x.f0 = y.f0) (h1 : x.f1 = y.f1) (h2 : x.f2 = y.f2) : x = y := by cases x; cases y; simp_all
instance : DecidableEq TValue := fun x y => decidable_of_iff (x.f0 = y.f0 ∧ x.f1 = y.f1 ∧ x.f2 = y.f2) ⟨fun h => V_ext h.1 h.2.1 h.2.2, fun h => by subst h; exact ⟨rfl, rfl, rfl⟩⟩
def okV (x : TValue) : Bool :=
  if x.f0 = 0 then decide (x.f1 = 0) && decide (x.f2 = (⟨#[]⟩ : ByteArray))
  else if x.f0 = 1 then decide (-4294967296 ≤ x.f1 ∧ x.f1 ≤ 4294967296) && decide (x.f2 = (⟨#[]⟩ : ByteArray))
  else if x.f0 = 2 then decide (x.f1 = 0) && decide (x.f2.size ≤ 32)
  else false
def clV (x : TValue) : TValue := if okV x then x else ⟨0, 0, ⟨#[]⟩⟩
theorem beq_empty (a : ByteArray) : (a.data.toList == (#[] : Array UInt8).toList) = decide (a = (⟨#[]⟩ : ByteArray)) := bytes_beq a ⟨#[]⟩
theorem beq_nil (a : ByteArray) : (a.data.toList == ([] : List UInt8)) = decide (a = (⟨#[]⟩ : ByteArray)) := bytes_beq a ⟨#[]⟩
theorem value_Valid_eq (k : Nat) (v : TValue) : value_Valid k v = some (okV v) := by
  unfold value_Valid value_inRange okV
  simp only [beq_empty, beq_nil, beq_iff_eq, decide_eq_true_eq]
  generalize decide (v.f2 = (⟨#[]⟩ : ByteArray)) = q
  by_cases h0 : v.f0 = 0
  · simp only [if_pos h0]
    by_cases h1 : v.f1 = 0 <;> simp [h1]
  · simp only [if_neg h0]
    by_cases h1 : v.f0 = 1
    · simp only [if_pos h1]
      by_cases h2 : v.f1 ≥ -4294967296
      · rw [if_pos h2]; simp only [Option.bind_some, decide_eq_true_eq]
        by_cases h3 : v.f1 ≤ 4294967296
        · rw [if_pos h3]; simp [h3]; omega
        · rw [if_neg h3]; simp [h3]
      · rw [if_neg h2]; simp; omega
    · simp only [if_neg h1]
      by_cases h2 : v.f0 = 2
      · simp only [if_pos h2]
        by_cases h3 : v.f1 = 0
        · simp [h3]; omega
        · simp [h3]
      · simp [h2]
theorem ref01_Valid_eq (k : Nat) (v : TValue) : erasureref01_Valid k v = some (okV v) := by
  rw [← value_Valid_eq k]
  unfold erasureref01_Valid value_Valid value_inRange
  by_cases h0 : (v.f0 == 0) = true
  · simp only [if_pos h0]
  · simp only [if_neg h0]
    by_cases h1 : (v.f0 == 1) = true
    · simp only [if_pos h1]
      by_cases h2 : decide (v.f1 ≥ -4294967296) = true
      · simp only [if_pos h2, Option.bind_some]
      · simp only [if_neg h2, Option.bind_some, Bool.false_eq_true, if_false]
    · simp only [if_neg h1]
theorem value_Clean_eq (k : Nat) (x : TValue) : value_Clean k x = some (clV x) := by
  unfold value_Clean clV value_Clean.p1 value_Clean.p2
  rw [value_Valid_eq, Option.bind_some]
  by_cases h : okV x = true
  · rw [if_pos h, if_pos h]
  · rw [if_neg h, if_neg h]
theorem ref01_Clean_eq (k : Nat) (x : TValue) : erasureref01_Clean k x = some (clV x) := by
  unfold erasureref01_Clean clV erasureref01_Clean.p1 erasureref01_Clean.p2
  rw [ref01_Valid_eq, Option.bind_some]
  by_cases h : okV x = true
  · rw [if_pos h, if_pos h]
  · rw [if_neg h, if_neg h]
theorem eqV_iff (x y : TValue) : ((x.f0 == y.f0) && ((x.f1 == y.f1) && ((x.f2.data.toList == y.f2.data.toList) && true))) = decide (x = y) := by
  rw [bytes_beq, Bool.eq_iff_iff]
  simp only [Bool.and_eq_true, beq_iff_eq, decide_eq_true_eq, and_true]
  exact ⟨fun h => V_ext h.1 h.2.1 h.2.2, fun h => by subst h; exact ⟨rfl, rfl, rfl⟩⟩
theorem dV {l : List TValue} {i : Nat} (h : i < l.length) : l.drop i = l.getD (i : Int).toNat dValue :: l.drop (i + 1) := drop_cons _ h
theorem dE {l : List TEntry} {i : Nat} (h : i < l.length) : l.drop i = l.getD (i : Int).toNat dEntry :: l.drop (i + 1) := drop_cons _ h
end Go.Proofs.YtjhnpaenhdbhpabV
set_option linter.unusedVariables false
set_option linter.unusedSimpArgs false
namespace Go.Proofs.YtjhnpaenhdbhpabV
open Go Go.RowKit
theorem bytesLess_eq : ∀ (x y : List UInt8), Op.bytesLess x y = decide (x < y)
  | [], [] => by simp [Op.bytesLess]
  | _ :: _, [] => by simp [Op.bytesLess]
  | [], _ :: _ => by simp [Op.bytesLess]
  | a :: x, b :: y => by
    rw [Op.bytesLess, bytesLess_eq x y]
    simp only [List.cons_lt_cons_iff]
    by_cases h1 : a < b <;> by_cases h2 : a = b <;> by_cases h3 : x < y <;> simp [h1, h2, h3]
theorem gtr_flip (a b : List UInt8) : (!(Op.bytesLess a b || a == b)) = Op.bytesLess b a := by
  rw [bytesLess_eq, bytesLess_eq, Bool.eq_iff_iff]
  simp only [Bool.not_eq_true', Bool.or_eq_false_iff, decide_eq_false_iff_not, beq_eq_false_iff_ne, decide_eq_true_eq]
  constructor
  · rintro ⟨h1, h2⟩
    rcases Std.lt_trichotomy a b with h | h | h
    · exact absurd h h1
    · exact absurd h h2
    · exact h
  · intro h
    exact ⟨fun h1 => (List.lt_asymm h h1), fun h1 => by subst h1; exact List.lt_irrefl _ h⟩
theorem okV_z : okV (⟨0, 0, ⟨#[]⟩⟩ : TValue) = true := by decide +kernel
theorem okV_cl (x : TValue) : okV (clV x) = true := by
  unfold clV
  by_cases h : okV x = true
  · rw [if_pos h]; exact h
  · rw [if_neg h]; exact okV_z
theorem clV_ok {x : TValue} (h : okV x = true) : clV x = x := if_pos h
def cmpI (a b : Int) : Int := if a < b then -1 else if b < a then 1 else 0
def cmpB (a b : ByteArray) : Int := if a.data.toList < b.data.toList then -1 else if b.data.toList < a.data.toList then 1 else 0
def cmpC (a b : TValue) : Int := if a.f0 ≠ b.f0 then cmpI a.f0 b.f0 else if a.f0 = 1 then cmpI a.f1 b.f1 else cmpB a.f2 b.f2
def cmpV (x y : TValue) : Int := cmpC (clV x) (clV y)
theorem cmp_int_eq (k : Nat) (a b : Int) : cmp_Compare_int k a b = some (cmpI a b) := by
  unfold cmp_Compare_int cmp_isNaN_int cmpI
  simp only [Option.bind_some, bne_self_eq_false, Bool.false_eq_true, if_false, GT.gt, decide_eq_true_eq]
  repeat' split
  all_goals rfl
theorem cmp_int64_eq (k : Nat) (a b : Int) : cmp_Compare_int64 k a b = some (cmpI a b) := by
  unfold cmp_Compare_int64 cmp_isNaN_int64 cmpI
  simp only [Option.bind_some, bne_self_eq_false, Bool.false_eq_true, if_false, GT.gt, decide_eq_true_eq]
  repeat' split
  all_goals rfl
theorem cmp_string_eq (k : Nat) (a b : ByteArray) : cmp_Compare_string k a b = some (cmpB a b) := by
  unfold cmp_Compare_string cmp_isNaN_string cmpB
  simp only [gtr_flip]
  simp only [Option.bind_some, beq_self_eq_true, Bool.not_true, Bool.false_eq_true, if_false, bytesLess_eq, decide_eq_true_eq]
  repeat' split
  all_goals rfl
theorem value_Compare_eq (k : Nat) (x y : TValue) : value_Compare k x y = some (cmpV x y) := by
  unfold value_Compare cmpV cmpC
  rw [value_Clean_eq, value_Clean_eq]
  simp only [Option.bind_some, cmp_int_eq, cmp_int64_eq, cmp_string_eq, bne_iff_ne, beq_iff_eq]
  repeat' split
  all_goals rfl
theorem ok_cases {x : TValue} (h : okV x = true) : (x.f0 = 0 ∧ x.f1 = 0 ∧ x.f2 = (⟨#[]⟩ : ByteArray)) ∨ (x.f0 = 1 ∧ x.f2 = (⟨#[]⟩ : ByteArray)) ∨ (x.f0 = 2 ∧ x.f1 = 0) := by
  unfold okV at h
  by_cases h0 : x.f0 = 0
  · rw [if_pos h0] at h; simp at h; exact .inl ⟨h0, h.1, h.2⟩
  · rw [if_neg h0] at h
    by_cases h1 : x.f0 = 1
    · rw [if_pos h1] at h; simp at h; exact .inr (.inl ⟨h1, h.2⟩)
    · rw [if_neg h1] at h
      by_cases h2 : x.f0 = 2
      · rw [if_pos h2] at h; simp at h; exact .inr (.inr ⟨h2, h.1⟩)
      · rw [if_neg h2] at h; cases h
theorem cmpI_zero {a b : Int} : cmpI a b = 0 ↔ a = b := by unfold cmpI; split <;> (try split) <;> omega
theorem cmpI_neg {a b : Int} : cmpI a b < 0 ↔ a < b := by unfold cmpI; split <;> (try split) <;> omega
theorem cmpI_swap (a b : Int) : cmpI b a = - cmpI a b := by unfold cmpI; split <;> split <;> omega
theorem listlt_tri (a b : List UInt8) : a < b ∨ a = b ∨ b < a := Std.lt_trichotomy a b
theorem cmpB_zero {a b : ByteArray} : cmpB a b = 0 ↔ a = b := by
  unfold cmpB
  by_cases h : a.data.toList < b.data.toList
  · rw [if_pos h]; exact ⟨fun e => by omega, fun e => by subst e; exact absurd h (List.lt_irrefl _)⟩
  · rw [if_neg h]
    by_cases h2 : b.data.toList < a.data.toList
    · rw [if_pos h2]; exact ⟨fun e => by omega, fun e => by subst e; exact absurd h2 (List.lt_irrefl _)⟩
    · rw [if_neg h2]
      exact ⟨fun _ => by rcases listlt_tri a.data.toList b.data.toList with h3 | h3 | h3
                         · exact absurd h3 h
                         · exact bytes_ext h3
                         · exact absurd h3 h2, fun _ => rfl⟩
theorem cmpB_neg {a b : ByteArray} : cmpB a b < 0 ↔ a.data.toList < b.data.toList := by
  unfold cmpB
  by_cases h : a.data.toList < b.data.toList
  · rw [if_pos h]; exact ⟨fun _ => h, fun _ => by omega⟩
  · rw [if_neg h]; exact ⟨fun e => by split at e <;> omega, fun e => absurd e h⟩
theorem cmpB_swap (a b : ByteArray) : cmpB b a = - cmpB a b := by
  unfold cmpB
  by_cases h : a.data.toList < b.data.toList
  · have h2 : ¬ b.data.toList < a.data.toList := fun h2 => List.lt_asymm h h2
    rw [if_pos h, if_neg h2, if_pos h]; rfl
  · by_cases h2 : b.data.toList < a.data.toList
    · simp only [h, h2, if_true, if_false]
    · simp only [h, h2, if_false]; rfl
theorem cmpC_swap (a b : TValue) : cmpC b a = - cmpC a b := by
  unfold cmpC
  by_cases h : a.f0 = b.f0
  · have h' := h.symm
    simp only [ne_eq, h, not_true, if_false]
    by_cases h1 : b.f0 = 1
    · rw [if_pos h1, if_pos h1]; exact cmpI_swap _ _
    · rw [if_neg h1, if_neg h1]; exact cmpB_swap _ _
  · have h' : b.f0 ≠ a.f0 := fun e => h e.symm
    rw [if_pos h', if_pos h]; exact cmpI_swap _ _
theorem cmpC_zero {a b : TValue} (ha : okV a = true) (hb : okV b = true) : cmpC a b = 0 ↔ a = b := by
  unfold cmpC
  by_cases h : a.f0 = b.f0
  · simp only [ne_eq, h, not_true, if_false]
    rcases ok_cases ha with ⟨a0, a1, a2⟩ | ⟨a0, a2⟩ | ⟨a0, a1⟩ <;> rcases ok_cases hb with ⟨b0, b1, b2⟩ | ⟨b0, b2⟩ | ⟨b0, b1⟩ <;> (try (rw [a0, b0] at h; omega))
    · rw [if_neg (by omega), cmpB_zero]; exact ⟨fun e => V_ext h (by omega) e, fun e => by rw [e]⟩
    · rw [if_pos b0, cmpI_zero]; exact ⟨fun e => V_ext h e (a2.trans b2.symm), fun e => by rw [e]⟩
    · rw [if_neg (by omega), cmpB_zero]; exact ⟨fun e => V_ext h (by omega) e, fun e => by rw [e]⟩
  · rw [if_pos h, cmpI_zero]; exact ⟨fun e => absurd e h, fun e => absurd (by rw [e]) h⟩
theorem cmpC_neg {a b : TValue} (ha : okV a = true) (hb : okV b = true) : cmpC a b < 0 ↔ (a.f0 < b.f0 ∨ (a.f0 = b.f0 ∧ (a.f1 < b.f1 ∨ a.f2.data.toList < b.f2.data.toList))) := by
  unfold cmpC
  by_cases h : a.f0 = b.f0
  · simp only [ne_eq, h, not_true, if_false, Int.lt_irrefl, false_or, true_and]
    rcases ok_cases ha with ⟨a0, a1, a2⟩ | ⟨a0, a2⟩ | ⟨a0, a1⟩ <;> rcases ok_cases hb with ⟨b0, b1, b2⟩ | ⟨b0, b2⟩ | ⟨b0, b1⟩ <;> (try (rw [a0, b0] at h; omega))
    · rw [if_neg (by omega), cmpB_neg, a1, b1]; simp
    · rw [if_pos b0, cmpI_neg, a2, b2]; exact ⟨.inl, fun e => e.elim id (fun e => absurd e (List.lt_irrefl _))⟩
    · rw [if_neg (by omega), cmpB_neg, a1, b1]; simp
  · rw [if_pos h, cmpI_neg]; exact ⟨.inl, fun e => e.elim id (fun e => absurd e.1 h)⟩
theorem ref01_Compare_eq (k : Nat) (x y : TValue) : erasureref01_Compare k x y = some (cmpV x y) := by
  have hx := okV_cl x
  have hy := okV_cl y
  have hz := cmpC_zero hx hy
  have hn := cmpC_neg hx hy
  have hr : cmpC (clV x) (clV y) = -1 ∨ cmpC (clV x) (clV y) = 0 ∨ cmpC (clV x) (clV y) = 1 := by
    unfold cmpC cmpI cmpB; repeat' split
    all_goals simp
  unfold cmpV erasureref01_Compare
  rw [ref01_Clean_eq, ref01_Clean_eq]
  simp only [Option.bind_some, eqV_iff, decide_eq_true_eq, bytesLess_eq, beq_iff_eq]
  generalize clV x = a at *
  generalize clV y = b at *
  by_cases h : a = b
  · rw [hz.2 h]; rw [if_pos h]
  · have h0 : cmpC a b ≠ 0 := fun e => h (hz.1 e)
    rw [if_neg h]
    by_cases hlt : cmpC a b < 0
    · have e1 : cmpC a b = -1 := by omega
      have hd := hn.1 hlt
      simp only [e1]
      repeat' split
      all_goals first | rfl | (exfalso; simp_all; try omega)
    · have e1 : cmpC a b = 1 := by omega
      have hd : ¬ _ := fun e => hlt (hn.2 e)
      simp only [not_or, not_and] at hd
      simp only [e1]
      repeat' split
      all_goals first | rfl | (exfalso; simp_all; try omega)
end Go.Proofs.YtjhnpaenhdbhpabV
set_option linter.unusedVariables false
set_option linter.unusedSimpArgs false
namespace Go.Proofs.YtjhnpaenhdbhpabV
open Go Go.RowKit
def cmpR : List TValue → List TValue → Int
  | [], [] => 0
  | [], _ :: _ => -1
  | _ :: _, [] => 1
  | x :: xs, y :: ys => if cmpV x y = 0 then cmpR xs ys else cmpV x y
theorem cmpR_nil (xs : List TValue) : cmpR xs [] = if xs.length = 0 then 0 else 1 := by cases xs <;> rfl
theorem nil_cmpR (ys : List TValue) : cmpR [] ys = if ys.length = 0 then 0 else -1 := by cases ys <;> rfl
theorem value_CompareRows_ev (xs ys : List TValue) (hx : xs.length ≤ 9223372036854775807) : Ev (fun k => value_CompareRows k xs ys) (cmpR xs ys) := by
  unfold value_CompareRows slices_CompareFunc_api_Value__value_Compare
  refine Ev.bind ?_ (Ev.now _)
  refine (loop_down (P := fun i => i ≤ ys.length → Ev (fun k => slices_CompareFunc_api_Value__value_Compare.p1 k xs ys xs (xs.length : Int) (i : Int)) (cmpR (xs.drop i) (ys.drop i))) xs.length ?_ ?_ 0 (by omega)) (by omega)
  · intro hy
    refine Ev.succ ?_
    simp only [slices_CompareFunc_api_Value__value_Compare.p1, decide_eq_true_eq]
    rw [List.drop_length, nil_cmpR, List.length_drop]
    refine Ev.ite_neg (by omega) ?_
    by_cases h : xs.length < ys.length
    · exact Ev.ite_pos (by omega) (Ev.done (by rw [if_neg (by omega)]))
    · exact Ev.ite_neg (by omega) (Ev.done (by rw [if_pos (by omega)]))
  · intro i hi ih hy
    refine Ev.succ ?_
    simp only [slices_CompareFunc_api_Value__value_Compare.p1, decide_eq_true_eq, value_Compare_eq, Option.bind_some, bne_iff_ne, ne_eq, ite_not]
    refine Ev.ite_pos (by omega) (Ev.ite_pos (by omega) ?_)
    by_cases h : i < ys.length
    · refine Ev.ite_neg (by omega) (Ev.ite_pos (by omega) ?_)
      rw [dV hi, dV h, wrn hi hx]
      unfold cmpR
      by_cases hc : cmpV (xs.getD (i : Int).toNat dValue) (ys.getD (i : Int).toNat dValue) = 0
      · rw [if_pos hc]; exact Ev.ite_pos hc (ih (by omega))
      · rw [if_neg hc]; exact Ev.ite_neg hc (Ev.now _)
    · rw [List.drop_eq_nil_of_le (show ys.length ≤ i by omega), cmpR_nil, List.length_drop, if_neg (by omega)]
      exact Ev.ite_pos (by omega) (Ev.now _)
def okRow (l : List TValue) : Bool := l.all okV && decide (l.length ≤ 16)
theorem value_ValidRow_ev (l : List TValue) (hl : l.length ≤ 9223372036854775807) : Ev (fun k => value_ValidRow k l) (okRow l) := by
  unfold value_ValidRow
  refine (loop_down (P := fun i => Ev (fun k => value_ValidRow.p1 k l l (l.length : Int) (i : Int)) ((l.drop i).all okV && decide (l.length ≤ 16))) l.length ?_ ?_ 0 (by omega))
  · refine Ev.succ ?_
    simp only [value_ValidRow.p1, decide_eq_true_eq]
    rw [List.drop_length]
    refine Ev.ite_neg (by omega) (Ev.done ?_)
    simp; omega
  · intro i hi ih
    refine Ev.succ ?_
    simp only [value_ValidRow.p1, value_Valid_eq, Option.bind_some, decide_eq_true_eq]
    refine Ev.ite_pos (by omega) (Ev.ite_pos (by omega) ?_)
    rw [dV hi, wrn hi hl, List.all_cons]
    cases hc : okV (l.getD (i : Int).toNat dValue) with
    | true => exact Ev.ite_neg (by simp) ih
    | false => exact Ev.ite_pos rfl (Ev.now _)
def okE (e : TEntry) : Bool := okRow e.f0 && decide (-262144 ≤ e.f1 ∧ e.f1 ≤ 262144)
theorem countFits_eq (k : Nat) (n : Int) : bag_countFits k n = some (decide (-262144 ≤ n ∧ n ≤ 262144)) := by
  unfold bag_countFits
  simp only [decide_eq_true_eq]
  by_cases h : n ≥ -262144
  · rw [if_pos h]; simp; omega
  · rw [if_neg h]; simp; omega
theorem entryFits_ev (e : TEntry) (hl : e.f0.length ≤ 9223372036854775807) : Ev (fun k => bag_entryFits k e) (okE e) := by
  unfold bag_entryFits okE
  refine Ev.bind (value_ValidRow_ev _ hl) ?_
  cases hc : okRow e.f0 with
  | true => simp only [if_true, countFits_eq, Option.bind_some, Bool.true_and]; exact Ev.now _
  | false => simp only [Bool.false_eq_true, if_false, Bool.false_and]; exact Ev.now _
def bvF : Option TEntry → List TEntry → Bool
  | _, [] => true
  | none, e :: l => okE e && !decide (e.f1 = 0) && bvF (some e) l
  | some p, e :: l => okE e && !decide (e.f1 = 0) && decide (cmpR p.f0 e.f0 < 0) && bvF (some e) l
def bagV (l : List TEntry) : Bool := bvF none l && decide (l.length ≤ 4096)
def prevE (l : List TEntry) (i : Nat) : Option TEntry := if i = 0 then none else some (l.getD ((i - 1 : Nat) : Int).toNat dEntry)
def Fin (l : List TEntry) : Prop := l.length ≤ 9223372036854775807 ∧ ∀ e ∈ l, e.f0.length ≤ 9223372036854775807
theorem Fin.at {l : List TEntry} (h : Fin l) {i : Nat} (hi : i < l.length) : (l.getD (i : Int).toNat dEntry).f0.length ≤ 9223372036854775807 := h.2 _ (getD_mem _ hi)
theorem bag_Valid_ev (l : List TEntry) (hl : Fin l) : Ev (fun k => bag_Valid k l) (bagV l) := by
  unfold bag_Valid
  refine (loop_down (P := fun i => Ev (fun k => bag_Valid.p1 k l l (l.length : Int) (i : Int)) (bvF (prevE l i) (l.drop i) && decide (l.length ≤ 4096))) l.length ?_ ?_ 0 (by omega))
  · refine Ev.succ ?_
    simp only [bag_Valid.p1, decide_eq_true_eq]
    rw [List.drop_length]
    refine Ev.ite_neg (by omega) (Ev.done ?_)
    simp [bvF]; omega
  · intro i hi ih
    have hp : prevE l (i + 1) = some (l.getD (i : Int).toNat dEntry) := by simp [prevE]
    rw [hp] at ih
    refine Ev.succ ?_
    simp only [bag_Valid.p1, decide_eq_true_eq, beq_iff_eq]
    refine Ev.ite_pos (by omega) (Ev.ite_pos (by omega) (Ev.bind (entryFits_ev _ (hl.at hi)) ?_))
    rw [dE hi, wrn hi hl.1]
    cases hc : okE (l.getD (i : Int).toNat dEntry) with
    | false => refine Ev.ite_pos rfl (Ev.done ?_); unfold bvF; cases prevE l i <;> simp only [hc, Bool.false_and]
    | true =>
      refine Ev.ite_neg (by simp) ?_
      by_cases hz : (l.getD (i : Int).toNat dEntry).f1 = 0
      · refine Ev.ite_pos hz (Ev.done ?_); unfold bvF; cases prevE l i <;> simp only [hz, decide_true, Bool.not_true, Bool.and_false, Bool.false_and]
      · refine Ev.ite_neg hz ?_
        by_cases h0 : i = 0
        · subst h0
          refine Ev.ite_neg (by omega) (ih.to ?_)
          simp only [prevE, if_true, bvF, hc, decide_eq_false hz, Bool.not_false, Bool.and_self, Bool.true_and]
        · have hl1 := hl.1
          rw [wrp (by omega) (by omega)]
          refine Ev.ite_pos (by omega) (Ev.ite_pos (by omega) (Ev.bind (value_CompareRows_ev _ _ (hl.at (show i - 1 < l.length by omega))) ?_))
          simp only [prevE, if_neg h0, bvF, hc, decide_eq_false hz, Bool.not_false, Bool.true_and]
          by_cases hcmp : cmpR (l.getD ((i - 1 : Nat) : Int).toNat dEntry).f0 (l.getD (i : Int).toNat dEntry).f0 < 0
          · rw [decide_eq_true hcmp]; exact Ev.ite_neg (by omega) (by simpa using ih)
          · rw [decide_eq_false hcmp]; exact Ev.ite_pos (by omega) (Ev.now _)
end Go.Proofs.YtjhnpaenhdbhpabV
set_option linter.unusedVariables false
set_option linter.unusedSimpArgs false
namespace Go.Proofs.YtjhnpaenhdbhpabV
open Go Go.RowKit
theorem ref01_CompareRows_ev (xs ys : List TValue) (hx : xs.length ≤ 9223372036854775807) : Ev (fun k => erasureref01_CompareRows k xs ys) (cmpR xs ys) := by
  unfold erasureref01_CompareRows
  refine (loop_down (P := fun i => i ≤ ys.length → Ev (fun k => erasureref01_CompareRows.p1 k xs ys (i : Int)) (cmpR (xs.drop i) (ys.drop i))) xs.length ?_ ?_ 0 (by omega)) (by omega)
  · intro hy
    refine Ev.succ ?_
    simp only [erasureref01_CompareRows.p1, decide_eq_true_eq]
    rw [List.drop_length, nil_cmpR, List.length_drop]
    refine Ev.ite_neg (by omega) ?_
    by_cases h : xs.length < ys.length
    · exact Ev.ite_pos (by omega) (Ev.done (by rw [if_neg (by omega)]))
    · exact Ev.ite_neg (by omega) (Ev.ite_neg (by omega) (Ev.done (by rw [if_pos (by omega)])))
  · intro i hi ih hy
    refine Ev.succ ?_
    simp only [erasureref01_CompareRows.p1, decide_eq_true_eq, ref01_Compare_eq, Option.bind_some, bne_iff_ne, ne_eq, ite_not]
    refine Ev.ite_pos (by omega) ?_
    by_cases h : i < ys.length
    · refine Ev.ite_pos (by omega) (Ev.ite_pos (by omega) (Ev.ite_pos (by omega) ?_))
      rw [dV hi, dV h, wrn hi hx]
      unfold cmpR
      by_cases hc : cmpV (xs.getD (i : Int).toNat dValue) (ys.getD (i : Int).toNat dValue) = 0
      · rw [if_pos hc]; exact Ev.ite_pos hc (ih (by omega))
      · rw [if_neg hc]; exact Ev.ite_neg hc (Ev.now _)
    · rw [List.drop_eq_nil_of_le (show ys.length ≤ i by omega), cmpR_nil, List.length_drop]
      exact (Ev.ite_neg (by omega) (Ev.ite_neg (by omega) (Ev.ite_pos (by omega) (Ev.now (1 : Int))))).to (by rw [if_neg (by omega)])
theorem ref01_ValidRow_ev (l : List TValue) : Ev (fun k => erasureref01_ValidRow k l) (okRow l) := by
  unfold erasureref01_ValidRow okRow
  simp only [decide_eq_true_eq]
  by_cases hl : l.length ≤ 16
  · refine Ev.ite_neg (by omega) ?_
    rw [decide_eq_true hl, Bool.and_true]
    refine (loop_down (P := fun i => Ev (fun k => erasureref01_ValidRow.p1 k l (i : Int)) ((l.drop i).all okV)) l.length ?_ ?_ 0 (by omega))
    · refine Ev.succ ?_
      simp only [erasureref01_ValidRow.p1, decide_eq_true_eq]
      rw [List.drop_length]
      exact Ev.ite_neg (by omega) (Ev.now _)
    · intro i hi ih
      refine Ev.succ ?_
      simp only [erasureref01_ValidRow.p1, ref01_Valid_eq, Option.bind_some, decide_eq_true_eq]
      refine Ev.ite_pos (by omega) (Ev.ite_pos (by omega) ?_)
      rw [dV hi, wrn hi (by omega), List.all_cons]
      cases hc : okV (l.getD (i : Int).toNat dValue) with
      | true => exact Ev.ite_neg (by simp) ih
      | false => exact Ev.ite_pos rfl (Ev.now _)
  · rw [decide_eq_false hl, Bool.and_false]
    exact Ev.ite_pos (by omega) (Ev.now _)
theorem ref06_countOK_eq (k : Nat) (n : Int) : erasureref06_countOK k n = some (decide (-262144 ≤ n ∧ n ≤ 262144)) := by
  unfold erasureref06_countOK
  simp only [decide_eq_true_eq]
  by_cases h : n ≥ -262144
  · rw [if_pos h]; simp; omega
  · rw [if_neg h]; simp; omega
theorem ref06_Valid_ev (l : List TEntry) (hl : Fin l) : Ev (fun k => erasureref06_Valid k l) (bagV l) := by
  unfold erasureref06_Valid bagV
  simp only [decide_eq_true_eq]
  by_cases hn : l.length ≤ 4096
  · rw [decide_eq_true hn, Bool.and_true]
    refine Ev.ite_neg (by omega) ?_
    refine (loop_down (P := fun i => Ev (fun k => erasureref06_Valid.p1 k l (i : Int)) (bvF (prevE l i) (l.drop i))) l.length ?_ ?_ 0 (by omega))
    · refine Ev.succ ?_
      simp only [erasureref06_Valid.p1, decide_eq_true_eq]
      rw [List.drop_length]
      refine Ev.ite_neg (by omega) (Ev.done ?_)
      simp [bvF]
    · intro i hi ih
      have hp : prevE l (i + 1) = some (l.getD (i : Int).toNat dEntry) := by simp [prevE]
      rw [hp] at ih
      refine Ev.succ ?_
      simp only [erasureref06_Valid.p1, ref06_countOK_eq, Option.bind_some, decide_eq_true_eq, beq_iff_eq]
      refine Ev.ite_pos (by omega) (Ev.ite_pos (by omega) (Ev.bind (ref01_ValidRow_ev _) ?_))
      rw [dE hi, wrn hi hl.1]
      cases hc : okRow (l.getD (i : Int).toNat dEntry).f0 with
      | false => refine Ev.ite_pos rfl (Ev.done ?_); unfold bvF; cases prevE l i <;> simp only [okE, hc, Bool.false_and]
      | true =>
        refine Ev.ite_neg (by simp) ?_
        by_cases hk : (-262144 ≤ (l.getD (i : Int).toNat dEntry).f1 ∧ (l.getD (i : Int).toNat dEntry).f1 ≤ 262144)
        · rw [decide_eq_true hk]
          refine Ev.ite_neg (by simp) ?_
          have hE : okE (l.getD (i : Int).toNat dEntry) = true := by unfold okE; rw [hc, decide_eq_true hk]; rfl
          by_cases hz : (l.getD (i : Int).toNat dEntry).f1 = 0
          · refine Ev.ite_pos hz (Ev.done ?_); unfold bvF; cases prevE l i <;> simp only [hz, decide_true, Bool.not_true, Bool.and_false, Bool.false_and]
          · refine Ev.ite_neg hz ?_
            by_cases h0 : i = 0
            · subst h0
              refine Ev.ite_neg (by omega) (ih.to ?_)
              simp only [prevE, if_true, bvF, hE, decide_eq_false hz, Bool.not_false, Bool.and_self, Bool.true_and]
            · have hl1 := hl.1
              rw [wrp (by omega) (by omega)]
              refine Ev.ite_pos (by omega) (Ev.ite_pos (by omega) (Ev.bind (ref01_CompareRows_ev _ _ (hl.at (show i - 1 < l.length by omega))) ?_))
              simp only [prevE, if_neg h0, bvF, hE, decide_eq_false hz, Bool.not_false, Bool.true_and]
              by_cases hcmp : cmpR (l.getD ((i - 1 : Nat) : Int).toNat dEntry).f0 (l.getD (i : Int).toNat dEntry).f0 < 0
              · rw [decide_eq_true hcmp]; exact Ev.ite_neg (by omega) (by simpa using ih)
              · rw [decide_eq_false hcmp]; exact Ev.ite_pos (by omega) (Ev.now _)
        · rw [decide_eq_false hk]
          refine Ev.ite_pos rfl (Ev.done ?_); unfold bvF; cases prevE l i <;> simp only [okE, hc, decide_eq_false hk, Bool.and_false, Bool.false_and]
  · rw [decide_eq_false hn, Bool.and_false]
    exact Ev.ite_pos (by omega) (Ev.now _)
end Go.Proofs.YtjhnpaenhdbhpabV
set_option linter.unusedVariables false
set_option linter.unusedSimpArgs false
namespace Go.Proofs.YtjhnpaenhdbhpabV
open Go Go.RowKit
def atV (row : List TValue) (c : Int) : TValue := if c < 0 then ⟨0, 0, ⟨#[]⟩⟩ else if c ≥ (row.length : Int) then ⟨0, 0, ⟨#[]⟩⟩ else clV (row.getD c.toNat dValue)
theorem cache_at_eq (k : Nat) (row : List TValue) (c : Int) : cache_at k row c = some (atV row c) := by
  unfold cache_at atV
  simp only [decide_eq_true_eq]
  by_cases h1 : c < 0
  · rw [if_pos h1, if_pos h1]
  rw [if_neg h1, if_neg h1]
  by_cases h2 : c ≥ (row.length : Int)
  · rw [if_pos h2, if_pos h2]
  rw [if_neg h2, if_neg h2, if_pos (by omega), value_Clean_eq]; rfl
theorem ref_at_eq (k : Nat) (row : List TValue) (c : Int) : erasureref30_at k row c = some (atV row c) := by
  unfold erasureref30_at atV
  simp only [decide_eq_true_eq]
  by_cases h1 : c < 0
  · rw [if_pos h1, if_pos h1]
  rw [if_neg h1, if_neg h1]
  by_cases h2 : c ≥ (row.length : Int)
  · rw [if_pos h2, if_pos h2]
  rw [if_neg h2, if_neg h2, if_pos (by omega), ref01_Clean_eq]; rfl
def selS (l : List TEntry) (c : Int) (v : TValue) : List TEntry := l.filter fun e => decide (atV e.f0 c = v)
theorem copied_ev (l : List TEntry) (hl : l.length ≤ 1099511627776) (hr : ∀ e ∈ l, e.f0.length ≤ 1099511627776) : Ev (fun k => cache_copied k l) l := by
  unfold cache_copied
  have key : ∀ i, i ≤ l.length → ∀ acc : List TEntry, acc.length = i → Ev (fun k => cache_copied.p1 k l (i : Int) acc) (acc ++ l.drop i) := by
    refine loop_down (P := fun i => ∀ acc : List TEntry, acc.length = i → Ev (fun k => cache_copied.p1 k l (i : Int) acc) (acc ++ l.drop i)) l.length ?_ ?_
    · intro acc _
      refine Ev.succ ?_
      simp only [cache_copied.p1, decide_eq_true_eq]
      rw [List.drop_length]
      exact Ev.ite_neg (by omega) (Ev.done (by simp))
    · intro i hi ih acc ha
      refine Ev.succ ?_
      simp only [cache_copied.p1, decide_eq_true_eq]
      have hr1 := hr _ (getD_mem dEntry hi)
      refine Ev.ite_pos (by omega) (Ev.ite_pos (by omega) (Ev.ite_pos (by simp only [maxLen]; omega) (Ev.ite_pos (by simp only [maxLen, List.length_singleton]; omega) ?_)))
      rw [dE hi, wrn hi (by omega)]
      exact (ih (acc ++ [l.getD (i : Int).toNat dEntry]) (by simp [ha])).to (by simp)
  simpa using key 0 (by omega) [] rfl
theorem sel_ev (l : List TEntry) (c : Int) (v : TValue) (hl : l.length ≤ 1099511627776) (hr : ∀ e ∈ l, e.f0.length ≤ 1099511627776) : Ev (fun k => cache_Select k l c v) (selS l c (clV v)) := by
  unfold cache_Select
  simp only [value_Clean_eq, Option.bind_some]
  have key : ∀ i, i ≤ l.length → ∀ acc : List TEntry, acc.length ≤ i → (∀ e ∈ acc, e.f0.length ≤ 1099511627776) → Ev (fun k => cache_Select.p1 k l c (i : Int) (clV v) acc) (acc ++ selS (l.drop i) c (clV v)) := by
    refine loop_down (P := fun i => ∀ acc : List TEntry, acc.length ≤ i → (∀ e ∈ acc, e.f0.length ≤ 1099511627776) → Ev (fun k => cache_Select.p1 k l c (i : Int) (clV v) acc) (acc ++ selS (l.drop i) c (clV v))) l.length ?_ ?_
    · intro acc ha hr0
      refine Ev.succ ?_
      simp only [cache_Select.p1, decide_eq_true_eq]
      rw [List.drop_length]
      refine Ev.ite_neg (by omega) ?_
      simp only [selS, List.filter_nil, List.append_nil]
      exact Ev.bind (copied_ev acc (by omega) hr0) (Ev.now _)
    · intro i hi ih acc ha hr0
      refine Ev.succ ?_
      simp only [cache_Select.p1, cache_at_eq, Option.bind_some, eqV_iff, decide_eq_true_eq]
      refine Ev.ite_pos (by omega) (Ev.ite_pos (by omega) ?_)
      rw [dE hi, wrn hi (by omega)]
      by_cases h : atV (l.getD (i : Int).toNat dEntry).f0 c = clV v
      · refine Ev.ite_pos h (Ev.ite_pos (by simp only [maxLen, List.length_singleton]; omega) ?_)
        exact (ih (acc ++ [l.getD (i : Int).toNat dEntry]) (by simp; omega) (by intro e he; rcases List.mem_append.1 he with he | he; exact hr0 e he; rw [List.mem_singleton] at he; subst he; exact hr _ (getD_mem _ hi))).to (by simp only [selS, List.filter_cons, h, decide_true, if_true, List.append_assoc, List.singleton_append])
      · exact Ev.ite_neg h ((ih acc (by omega) hr0).to (by simp only [selS, List.filter_cons, h, decide_false, Bool.false_eq_true, if_false]))
  exact key 0 (by omega) [] (by simp) (by simp)
theorem refSel_ev (l : List TEntry) (c : Int) (v : TValue) (hl : l.length ≤ 1099511627776) : Ev (fun k => erasureref30_Select k l c v) (selS l c (clV v)) := by
  unfold erasureref30_Select
  have key : ∀ i, i ≤ l.length → ∀ acc : List TEntry, acc.length ≤ i → Ev (fun k => erasureref30_Select.p1 k l c (i : Int) v acc) (acc ++ selS (l.drop i) c (clV v)) := by
    refine loop_down (P := fun i => ∀ acc : List TEntry, acc.length ≤ i → Ev (fun k => erasureref30_Select.p1 k l c (i : Int) v acc) (acc ++ selS (l.drop i) c (clV v))) l.length ?_ ?_
    · intro acc ha
      refine Ev.succ ?_
      simp only [erasureref30_Select.p1, decide_eq_true_eq]
      rw [List.drop_length]
      exact Ev.ite_neg (by omega) (Ev.done (by simp [selS]))
    · intro i hi ih acc ha
      refine Ev.succ ?_
      simp only [erasureref30_Select.p1, ref_at_eq, ref01_Clean_eq, Option.bind_some, eqV_iff, decide_eq_true_eq]
      refine Ev.ite_pos (by omega) (Ev.ite_pos (by omega) ?_)
      rw [dE hi, wrn hi (by omega)]
      by_cases h : atV (l.getD (i : Int).toNat dEntry).f0 c = clV v
      · refine Ev.ite_pos h (Ev.ite_pos (by simp only [maxLen, List.length_singleton]; omega) ?_)
        exact (ih (acc ++ [l.getD (i : Int).toNat dEntry]) (by simp; omega)).to (by simp only [selS, List.filter_cons, h, decide_true, if_true, List.append_assoc, List.singleton_append])
      · exact Ev.ite_neg h ((ih acc (by omega)).to (by simp only [selS, List.filter_cons, h, decide_false, Bool.false_eq_true, if_false]))
  exact key 0 (by omega) [] (by simp)
end Go.Proofs.YtjhnpaenhdbhpabV
set_option linter.unusedVariables false
set_option linter.unusedSimpArgs false
namespace Go.Proofs.YtjhnpaenhdbhpabV
open Go Go.RowKit
def okD (n : Int) : Bool := decide (0 ≤ n ∧ n ≤ 1048576)
theorem inDays_eq (k : Nat) (n : Int) : cache_inDays k n = some (okD n) := by
  unfold cache_inDays okD
  simp only [decide_eq_true_eq]
  by_cases h : n ≥ 0
  · rw [if_pos h]; simp; omega
  · rw [if_neg h]; simp; omega
theorem ranged_eq (k : Nat) (c : TCache) (d : Int) : erasureref30_ranged k c d = some (okD c.f3 && okD d) := by
  unfold erasureref30_ranged okD
  simp only [decide_eq_true_eq]
  by_cases h1 : c.f3 ≥ 0
  · rw [if_pos h1]
    by_cases h2 : c.f3 ≤ 1048576
    · rw [if_pos h2, decide_eq_true (show 0 ≤ c.f3 ∧ c.f3 ≤ 1048576 from ⟨h1, h2⟩)]
      by_cases h3 : d ≥ 0
      · rw [if_pos h3]; simp; omega
      · rw [if_neg h3]; simp; omega
    · rw [if_neg h2]; simp; omega
  · rw [if_neg h1]; simp; omega
def ctF : Option TCached → List TCached → Bool
  | _, [] => true
  | none, x :: l => okV x.f0 && (bagV x.f1 && (okD x.f2 && ctF (some x) l))
  | some p, x :: l => okV x.f0 && (decide (cmpV p.f0 x.f0 < 0) && (bagV x.f1 && (okD x.f2 && ctF (some x) l)))
def cacheV (l : List TCached) : Bool := ctF none l && decide (l.length ≤ 16)
def prevC (l : List TCached) (i : Nat) : Option TCached := if i = 0 then none else some (l.getD ((i - 1 : Nat) : Int).toNat dCached)
theorem dC {l : List TCached} {i : Nat} (h : i < l.length) : l.drop i = l.getD (i : Int).toNat dCached :: l.drop (i + 1) := drop_cons _ h
def FinC (l : List TCached) : Prop := l.length ≤ 9223372036854775807 ∧ ∀ x ∈ l, Fin x.f1
theorem cache_Valid_ev (l : List TCached) (hl : FinC l) : Ev (fun k => cache_Valid k l) (cacheV l) := by
  unfold cache_Valid cacheV
  simp only [decide_eq_true_eq]
  by_cases hn : l.length ≤ 16
  · rw [decide_eq_true hn, Bool.and_true]
    refine Ev.ite_neg (by omega) ?_
    refine (loop_down (P := fun i => Ev (fun k => cache_Valid.p1 k l (i : Int)) (ctF (prevC l i) (l.drop i))) l.length ?_ ?_ 0 (by omega))
    · refine Ev.succ ?_
      simp only [cache_Valid.p1, decide_eq_true_eq]
      rw [List.drop_length]
      refine Ev.ite_neg (by omega) (Ev.done ?_)
      cases prevC l l.length <;> rfl
    · intro i hi ih
      have hp : prevC l (i + 1) = some (l.getD (i : Int).toNat dCached) := by simp [prevC]
      rw [hp] at ih
      refine Ev.succ ?_
      simp only [cache_Valid.p1, decide_eq_true_eq, value_Valid_eq, value_Compare_eq, inDays_eq, Option.bind_some]
      refine Ev.ite_pos (by omega) (Ev.ite_pos (by omega) ?_)
      rw [dC hi, wrn hi hl.1]
      have hf := hl.2 _ (getD_mem dCached hi)
      have tail : Ev (fun k => (bag_Valid k ((l.getD (i : Int).toNat dCached).f1)).bind fun y_18 => (if (!y_18) = true then (some false) else (if (!okD ((l.getD (i : Int).toNat dCached).f2)) = true then (some false) else (cache_Valid.p1 k l ((i + 1 : Nat) : Int)))))
          (bagV (l.getD (i : Int).toNat dCached).f1 && (okD (l.getD (i : Int).toNat dCached).f2 && ctF (some (l.getD (i : Int).toNat dCached)) (l.drop (i + 1)))) := by
        refine Ev.bind (bag_Valid_ev _ hf) ?_
        cases hb : bagV (l.getD (i : Int).toNat dCached).f1 with
        | false => exact Ev.ite_pos rfl (Ev.now _)
        | true =>
          refine Ev.ite_neg (by simp) ?_
          cases hd : okD (l.getD (i : Int).toNat dCached).f2 with
          | false => exact Ev.ite_pos rfl (Ev.now _)
          | true => exact Ev.ite_neg (by simp) ih
      cases hv : okV (l.getD (i : Int).toNat dCached).f0 with
      | false => refine Ev.ite_pos rfl (Ev.done ?_); unfold ctF; cases prevC l i <;> simp only [hv, Bool.false_and]
      | true =>
        refine Ev.ite_neg (by simp) ?_
        by_cases h0 : i = 0
        · subst h0
          refine Ev.ite_neg (by omega) (tail.to ?_)
          simp only [prevC, if_true, ctF, hv, Bool.true_and]
        · have hl1 := hl.1
          rw [wrp (by omega) (by omega)]
          refine Ev.ite_pos (by omega) (Ev.ite_pos (by omega) ?_)
          simp only [prevC, if_neg h0, ctF, hv, Bool.true_and]
          by_cases hc : cmpV (l.getD ((i - 1 : Nat) : Int).toNat dCached).f0 (l.getD (i : Int).toNat dCached).f0 < 0
          · rw [decide_eq_true hc, Bool.true_and]; exact Ev.ite_neg (by omega) tail
          · rw [decide_eq_false hc, Bool.false_and]; exact Ev.ite_pos (by omega) (Ev.now _)
  · rw [decide_eq_false hn, Bool.and_false]
    exact Ev.ite_pos (by omega) (Ev.now _)
theorem ref30_Valid_ev (l : List TCached) (hl : FinC l) : Ev (fun k => erasureref30_Valid k l) (cacheV l) := by
  unfold erasureref30_Valid cacheV
  refine (loop_down (P := fun i => Ev (fun k => erasureref30_Valid.p1 k l (i : Int)) (ctF (prevC l i) (l.drop i) && decide (l.length ≤ 16))) l.length ?_ ?_ 0 (by omega))
  · refine Ev.succ ?_
    simp only [erasureref30_Valid.p1, decide_eq_true_eq]
    rw [List.drop_length]
    refine Ev.ite_neg (by omega) (Ev.done ?_)
    cases prevC l l.length <;> simp [ctF] <;> omega
  · intro i hi ih
    have hp : prevC l (i + 1) = some (l.getD (i : Int).toNat dCached) := by simp [prevC]
    rw [hp] at ih
    refine Ev.succ ?_
    simp only [erasureref30_Valid.p1, decide_eq_true_eq, ref01_Valid_eq, ref01_Compare_eq, Option.bind_some]
    refine Ev.ite_pos (by omega) (Ev.ite_pos (by omega) ?_)
    rw [dC hi, wrn hi hl.1]
    have hf := hl.2 _ (getD_mem dCached hi)
    have tail : Ev (fun k => (erasureref06_Valid k ((l.getD (i : Int).toNat dCached).f1)).bind fun y_16 => (if (!y_16) = true then (some false) else (if (l.getD (i : Int).toNat dCached).f2 < 0 then (some false) else (if (l.getD (i : Int).toNat dCached).f2 > 1048576 then (some false) else (erasureref30_Valid.p1 k l ((i + 1 : Nat) : Int))))))
        ((bagV (l.getD (i : Int).toNat dCached).f1 && (okD (l.getD (i : Int).toNat dCached).f2 && ctF (some (l.getD (i : Int).toNat dCached)) (l.drop (i + 1)))) && decide (l.length ≤ 16)) := by
      refine Ev.bind (ref06_Valid_ev _ hf) ?_
      cases hb : bagV (l.getD (i : Int).toNat dCached).f1 with
      | false => exact Ev.ite_pos rfl (Ev.now _)
      | true =>
        refine Ev.ite_neg (by simp) ?_
        by_cases hd : 0 ≤ (l.getD (i : Int).toNat dCached).f2 ∧ (l.getD (i : Int).toNat dCached).f2 ≤ 1048576
        · have e : okD (l.getD (i : Int).toNat dCached).f2 = true := decide_eq_true hd
          rw [e]
          exact Ev.ite_neg (by omega) (Ev.ite_neg (by omega) (ih.to (by simp only [Bool.true_and])))
        · have e : okD (l.getD (i : Int).toNat dCached).f2 = false := decide_eq_false hd
          rw [e]
          by_cases h1 : (l.getD (i : Int).toNat dCached).f2 < 0
          · exact Ev.ite_pos h1 (Ev.done (by simp))
          · exact Ev.ite_neg h1 (Ev.ite_pos (by omega) (Ev.done (by simp)))
    cases hv : okV (l.getD (i : Int).toNat dCached).f0 with
    | false => refine Ev.ite_pos rfl (Ev.done ?_); unfold ctF; cases prevC l i <;> simp only [hv, Bool.false_and]
    | true =>
      refine Ev.ite_neg (by simp) ?_
      by_cases h0 : i = 0
      · subst h0
        refine Ev.ite_neg (by omega) (tail.to ?_)
        simp only [prevC, if_true, ctF, hv, Bool.true_and]
      · have hl1 := hl.1
        rw [wrp (by omega) (by omega)]
        refine Ev.ite_pos (by omega) (Ev.ite_pos (by omega) ?_)
        simp only [prevC, if_neg h0, ctF, hv, Bool.true_and]
        by_cases hc : cmpV (l.getD ((i - 1 : Nat) : Int).toNat dCached).f0 (l.getD (i : Int).toNat dCached).f0 < 0
        · rw [decide_eq_true hc, Bool.true_and]; exact Ev.ite_neg (by omega) tail
        · rw [decide_eq_false hc, Bool.false_and, Bool.false_and]; exact Ev.ite_pos (by omega) (Ev.now _)
end Go.Proofs.YtjhnpaenhdbhpabV
set_option linter.unusedVariables false
set_option linter.unusedSimpArgs false
namespace Go.Proofs.YtjhnpaenhdbhpabV
open Go Go.RowKit
theorem bvF_mem : ∀ (l : List TEntry) (p : Option TEntry), bvF p l = true → ∀ e ∈ l, okE e = true
  | [], _, _, e, he => by cases he
  | x :: l, p, h, e, he => by
    have h1 : okE x = true ∧ bvF (some x) l = true := by
      cases p <;> simp only [bvF, Bool.and_eq_true] at h
      · exact ⟨h.1.1, h.2⟩
      · exact ⟨h.1.1.1, h.2⟩
    rcases List.mem_cons.1 he with rfl | he
    · exact h1.1
    · exact bvF_mem l _ h1.2 e he
theorem bagV_mem {l : List TEntry} (h : bagV l = true) : ∀ e ∈ l, okE e = true := by
  simp only [bagV, Bool.and_eq_true] at h
  exact bvF_mem l none h.1
theorem bagV_len {l : List TEntry} (h : bagV l = true) : l.length ≤ 4096 := by
  simp only [bagV, Bool.and_eq_true, decide_eq_true_eq] at h
  exact h.2
theorem okE_len {e : TEntry} (h : okE e = true) : e.f0.length ≤ 16 := by
  simp only [okE, okRow, Bool.and_eq_true, decide_eq_true_eq] at h
  exact h.1.2
theorem ctF_mem : ∀ (l : List TCached) (p : Option TCached), ctF p l = true → ∀ x ∈ l, okV x.f0 = true ∧ bagV x.f1 = true ∧ okD x.f2 = true
  | [], _, _, x, hx => by cases hx
  | y :: l, p, h, x, hx => by
    have h1 : (okV y.f0 = true ∧ bagV y.f1 = true ∧ okD y.f2 = true) ∧ ctF (some y) l = true := by
      cases p <;> simp only [ctF, Bool.and_eq_true] at h
      · exact ⟨⟨h.1, h.2.1, h.2.2.1⟩, h.2.2.2⟩
      · exact ⟨⟨h.1, h.2.2.1, h.2.2.2.1⟩, h.2.2.2.2⟩
    rcases List.mem_cons.1 hx with rfl | hx
    · exact h1.1
    · exact ctF_mem l _ h1.2 x hx
theorem cacheV_mem {l : List TCached} (h : cacheV l = true) : ∀ x ∈ l, okV x.f0 = true ∧ bagV x.f1 = true ∧ okD x.f2 = true := by
  simp only [cacheV, Bool.and_eq_true] at h
  exact ctF_mem l none h.1
theorem cacheV_len {l : List TCached} (h : cacheV l = true) : l.length ≤ 16 := by
  simp only [cacheV, Bool.and_eq_true, decide_eq_true_eq] at h
  exact h.2
theorem copied_bag (l : List TEntry) (h : bagV l = true) : Ev (fun k => cache_copied k l) l :=
  copied_ev l (by have := bagV_len h; omega) (fun e he => by have := okE_len (bagV_mem h e he); omega)
theorem duplicate_ev (x : TCached) (h : bagV x.f1 = true) : Ev (fun k => cache_duplicate k x) x := by
  unfold cache_duplicate
  exact Ev.bind (copied_bag _ h) (Ev.now _)
def liveC (t d : Int) (x : TCached) : Bool := decide (x.f2 ≤ d ∧ d < x.f2 + t)
def expS (t : Int) (l : List TCached) (d : Int) : List TCached := if cacheV l && (okD t && okD d) then l.filter (liveC t d) else []
theorem okD_rng {n : Int} (h : okD n = true) : 0 ≤ n ∧ n ≤ 1048576 := of_decide_eq_true h
theorem Expire_ev (c : TCache) (l : List TCached) (d : Int) (hl : FinC l) : Ev (fun k => cache_Expire k c l d) (expS c.f3 l d) := by
  unfold cache_Expire expS
  simp only [inDays_eq, Option.bind_some]
  refine Ev.bind (cache_Valid_ev l hl) ?_
  cases hv : cacheV l with
  | false => exact Ev.ite_pos rfl (Ev.now _)
  | true =>
    refine Ev.ite_neg (by simp) ?_
    cases ht : okD c.f3 with
    | false => exact Ev.ite_pos rfl (Ev.now _)
    | true =>
      refine Ev.ite_neg (by simp) ?_
      cases hd : okD d with
      | false => exact Ev.ite_pos rfl (Ev.now _)
      | true =>
        refine Ev.ite_neg (by simp) ?_
        have hn := cacheV_len hv
        have ht' := okD_rng ht
        have key : ∀ i, i ≤ l.length → ∀ acc : List TCached, acc.length ≤ i → Ev (fun k => cache_Expire.p1 k l d (i : Int) c acc) (acc ++ (l.drop i).filter (liveC c.f3 d)) := by
          refine loop_down (P := fun i => ∀ acc : List TCached, acc.length ≤ i → Ev (fun k => cache_Expire.p1 k l d (i : Int) c acc) (acc ++ (l.drop i).filter (liveC c.f3 d))) l.length ?_ ?_
          · intro acc _
            refine Ev.succ ?_
            simp only [cache_Expire.p1, decide_eq_true_eq]
            rw [List.drop_length]
            exact Ev.ite_neg (by omega) (Ev.done (by simp))
          · intro i hi ih acc ha
            refine Ev.succ ?_
            simp only [cache_Expire.p1, decide_eq_true_eq]
            obtain ⟨hx1, hx2, hx3⟩ := cacheV_mem hv _ (getD_mem dCached hi)
            have hx3 := okD_rng hx3
            rw [dC hi, wrn hi (by omega), wr (n := (l.getD (i : Int).toNat dCached).f2 + c.f3) (by omega), List.filter_cons]
            refine Ev.ite_pos (by omega) (Ev.ite_pos (by omega) ?_)
            unfold liveC at *
            by_cases h1 : d ≥ (l.getD (i : Int).toNat dCached).f2
            · refine Ev.ite_pos h1 ?_
              by_cases h2 : d < (l.getD (i : Int).toNat dCached).f2 + c.f3
              · refine Ev.ite_pos h2 (Ev.bind (duplicate_ev _ hx2) (Ev.ite_pos (by simp only [maxLen, List.length_singleton]; omega) ?_))
                rw [if_pos (decide_eq_true ⟨h1, h2⟩)]
                exact (ih (acc ++ [l.getD (i : Int).toNat dCached]) (by simp; omega)).to (by simp only [List.append_assoc, List.singleton_append])
              · rw [if_neg (by simp only [decide_eq_true_eq]; omega)]
                exact Ev.ite_neg h2 (ih acc (by omega))
            · rw [if_neg (by simp only [decide_eq_true_eq]; omega)]
              exact Ev.ite_neg h1 (ih acc (by omega))
        exact key 0 (by omega) [] (by simp)
theorem refExpire_ev (c : TCache) (l : List TCached) (d : Int) (hl : FinC l) : Ev (fun k => erasureref30_Expire k c l d) (expS c.f3 l d) := by
  unfold erasureref30_Expire expS
  simp only [ranged_eq, Option.bind_some]
  refine Ev.bind (ref30_Valid_ev l hl) ?_
  cases hv : cacheV l with
  | false => exact Ev.ite_pos rfl (Ev.now _)
  | true =>
    refine Ev.ite_neg (by simp) ?_
    cases ht : okD c.f3 with
    | false => exact Ev.ite_pos rfl (Ev.now _)
    | true =>
      cases hd : okD d with
      | false => exact Ev.ite_pos rfl (Ev.now _)
      | true =>
        refine Ev.ite_neg (by simp) ?_
        have hn := cacheV_len hv
        have ht' := okD_rng ht
        have key : ∀ i, i ≤ l.length → ∀ acc : List TCached, acc.length ≤ i → Ev (fun k => erasureref30_Expire.p1 k l d (i : Int) c acc) (acc ++ (l.drop i).filter (liveC c.f3 d)) := by
          refine loop_down (P := fun i => ∀ acc : List TCached, acc.length ≤ i → Ev (fun k => erasureref30_Expire.p1 k l d (i : Int) c acc) (acc ++ (l.drop i).filter (liveC c.f3 d))) l.length ?_ ?_
          · intro acc _
            refine Ev.succ ?_
            simp only [erasureref30_Expire.p1, decide_eq_true_eq]
            rw [List.drop_length]
            exact Ev.ite_neg (by omega) (Ev.done (by simp))
          · intro i hi ih acc ha
            refine Ev.succ ?_
            simp only [erasureref30_Expire.p1, decide_eq_true_eq]
            obtain ⟨hx1, hx2, hx3⟩ := cacheV_mem hv _ (getD_mem dCached hi)
            have hx3 := okD_rng hx3
            rw [dC hi, wrn hi (by omega), wr (n := (l.getD (i : Int).toNat dCached).f2 + c.f3) (by omega), List.filter_cons]
            refine Ev.ite_pos (by omega) (Ev.ite_pos (by omega) ?_)
            unfold liveC at *
            by_cases h1 : d ≥ (l.getD (i : Int).toNat dCached).f2
            · refine Ev.ite_pos h1 ?_
              by_cases h2 : d < (l.getD (i : Int).toNat dCached).f2 + c.f3
              · refine Ev.ite_pos h2 (Ev.ite_pos (by simp only [maxLen, List.length_singleton]; omega) ?_)
                rw [if_pos (decide_eq_true ⟨h1, h2⟩)]
                exact (ih (acc ++ [l.getD (i : Int).toNat dCached]) (by simp; omega)).to (by simp only [List.append_assoc, List.singleton_append])
              · rw [if_neg (by simp only [decide_eq_true_eq]; omega)]
                exact Ev.ite_neg h2 (ih acc (by omega))
            · rw [if_neg (by simp only [decide_eq_true_eq]; omega)]
              exact Ev.ite_neg h1 (ih acc (by omega))
        exact key 0 (by omega) [] (by simp)
theorem usable_ev (c : TCache) (l : List TCached) (rows : List TEntry) (d : Int) (hl : FinC l) (hr : Fin rows) : Ev (fun k => cache_usable k c l rows d) (cacheV l && (bagV rows && (okD c.f3 && okD d))) := by
  unfold cache_usable
  simp only [inDays_eq, Option.bind_some]
  refine Ev.bind (cache_Valid_ev l hl) ?_
  cases hv : cacheV l with
  | false => exact Ev.ite_neg (by simp) (Ev.now _)
  | true =>
    refine Ev.ite_pos rfl (Ev.bind (bag_Valid_ev rows hr) ?_)
    cases hb : bagV rows with
    | false => exact Ev.ite_neg (by simp) (Ev.now _)
    | true =>
      refine Ev.ite_pos rfl ?_
      cases ht : okD c.f3 with
      | false => exact Ev.ite_neg (by simp) (Ev.now _)
      | true => exact Ev.ite_pos rfl (Ev.now _)
end Go.Proofs.YtjhnpaenhdbhpabV
set_option linter.unusedVariables false
set_option linter.unusedSimpArgs false
namespace Go.Proofs.YtjhnpaenhdbhpabV
open Go Go.RowKit
theorem ins_eq {α : Type} (out : List α) (z y : α) (i : Nat) (hi : i ≤ out.length) :
    (copyL (out ++ [z]) ((i + 1 : Nat) : Int) ((out ++ [z]).length : Int) (subL (out ++ [z]) (i : Int) ((out ++ [z]).length : Int))).set i y = out.take i ++ y :: out.drop i := by
  have hn : ((((out ++ [z]).length : Nat) : Int)).toNat = out.length + 1 := by simp
  unfold copyL subL
  rw [hn]
  simp only [Int.toNat_natCast]
  have e1 : (List.take (out.length + 1) (out ++ [z])) = out ++ [z] := List.take_of_length_le (by simp)
  have e2 : (out ++ [z]).drop i = out.drop i ++ [z] := List.drop_append_of_le_length hi
  have e3 : (out.drop i ++ [z]).take (out.length + 1 - (i + 1)) = out.drop i := by
    rw [List.take_append_of_le_length (by simp), List.take_of_length_le (by simp)]
  have e4 : (out ++ [z]).drop (i + 1 + min (out.drop i ++ [z]).length (out.length + 1 - (i + 1))) = [] := List.drop_eq_nil_of_le (by simp; omega)
  rw [e1, e2, e3, e4, List.append_nil]
  have e5 : (out ++ [z]).take (i + 1) = out.take i ++ [(out ++ [z]).getD i z] := by
    rw [List.take_add_one, List.take_append_of_le_length hi]
    congr 1
    rw [List.getD_eq_getElem?_getD, List.getElem?_eq_getElem (by simp; omega)]; rfl
  rw [e5, List.append_assoc, List.set_append_right _ _ (by simp; omega)]
  have e6 : i - (out.take i).length = 0 := by simp; omega
  rw [e6]; rfl
theorem ins_get {α : Type} (d : α) (out : List α) (y : α) (i : Nat) (hi : i ≤ out.length) : (out.take i ++ y :: out.drop i).getD i d = y := by
  rw [List.getD_eq_getElem?_getD, List.getElem?_append_right (by simp; omega)]
  have e6 : i - (out.take i).length = 0 := by simp; omega
  rw [e6]; rfl
def insC (w : TValue) (y : TCached) : List TCached → List TCached
  | [] => [y]
  | x :: l => if cmpV x.f0 w < 0 then x :: insC w y l else y :: x :: l
theorem sel_bag (rows : List TEntry) (c : Int) (w : TValue) (h : bagV rows = true) : (selS rows c w).length ≤ 4096 ∧ ∀ e ∈ selS rows c w, e.f0.length ≤ 16 :=
  ⟨Nat.le_trans (List.length_filter_le _ _) (bagV_len h), fun e he => okE_len (bagV_mem h e (List.mem_filter.1 he).1)⟩
theorem lookup_p3 (rows : List TEntry) (d : Int) (c : TCache) (out : List TCached) (w : TValue) (hb : bagV rows = true) (hw : okV w = true) (hl : out.length ≤ 16) : ∀ i, i ≤ out.length →
    Ev (fun k => cache_Lookup.p3 k rows d (i : Int) c out w) (out.take i ++ insC w ⟨w, selS rows c.f2 w, d⟩ (out.drop i), selS rows c.f2 w, 0) := by
  have hs := sel_bag rows c.f2 w hb
  have hsel : Ev (fun k => cache_Select k rows c.f2 w) (selS rows c.f2 w) := by
    have := sel_ev rows c.f2 w (by have := bagV_len hb; omega) (fun e he => by have := okE_len (bagV_mem hb e he); omega)
    rwa [show clV w = w from if_pos hw] at this
  have hcp : Ev (fun k => cache_copied k (selS rows c.f2 w)) (selS rows c.f2 w) := copied_ev _ (by omega) (fun e he => by have := hs.2 e he; omega)
  refine loop_down (P := fun i => Ev (fun k => cache_Lookup.p3 k rows d (i : Int) c out w) (out.take i ++ insC w ⟨w, selS rows c.f2 w, d⟩ (out.drop i), selS rows c.f2 w, 0)) out.length ?_ ?_
  · refine Ev.succ ?_
    simp only [cache_Lookup.p3, decide_eq_true_eq]
    have hw1 : IntKind.i64.wrap ((out.length : Int) + 1) = ((out.length + 1 : Nat) : Int) := by rw [wr (by omega)]; omega
    simp only [hw1]
    refine Ev.ite_neg (by omega) (Ev.ite_pos (by simp only [maxLen, List.length_singleton]; omega) (Ev.ite_pos (by simp only [List.length_append, List.length_singleton]; omega) (Ev.ite_pos (by simp only [List.length_append, List.length_singleton]; omega) (Ev.bind hsel (Ev.ite_pos (by simp only [List.length_append, List.length_singleton]; omega) ?_)))))
    have e := ins_eq out (TCached.mk (TValue.mk 0 0 (⟨#[]⟩ : ByteArray)) ([] : List TEntry) 0) ⟨w, selS rows c.f2 w, d⟩ out.length (Nat.le_refl _)
    simp only [Int.toNat_natCast]
    rw [e, ins_get _ _ _ _ (Nat.le_refl _)]
    refine Ev.bind hcp (Ev.done ?_)
    rw [List.drop_length]; rfl
  · intro i hi ih
    refine Ev.succ ?_
    simp only [cache_Lookup.p3, decide_eq_true_eq, value_Compare_eq, Option.bind_some]
    rw [dC hi]
    have hw1 : IntKind.i64.wrap ((i : Int) + 1) = ((i + 1 : Nat) : Int) := wrn hi (by omega)
    simp only [hw1]
    refine Ev.ite_pos (by omega) (Ev.ite_pos (by omega) ?_)
    unfold insC
    by_cases hc : cmpV (out.getD (i : Int).toNat dCached).f0 w < 0
    · rw [if_pos hc]
      refine Ev.ite_pos hc (ih.to ?_)
      have e5 : out.take (i + 1) = out.take i ++ [out.getD (i : Int).toNat dCached] := by
        rw [List.take_add_one]
        congr 1
        rw [Int.toNat_natCast, List.getD_eq_getElem?_getD, List.getElem?_eq_getElem hi]; rfl
      rw [e5, List.append_assoc]; rfl
    · rw [if_neg hc]
      refine Ev.ite_neg hc (Ev.ite_pos (by simp only [maxLen, List.length_singleton]; omega) (Ev.ite_pos (by simp only [List.length_append, List.length_singleton]; omega) (Ev.ite_pos (by simp only [List.length_append, List.length_singleton]; omega) (Ev.bind hsel (Ev.ite_pos (by simp only [List.length_append, List.length_singleton]; omega) ?_)))))
      have e := ins_eq out (TCached.mk (TValue.mk 0 0 (⟨#[]⟩ : ByteArray)) ([] : List TEntry) 0) ⟨w, selS rows c.f2 w, d⟩ i (by omega)
      simp only [Int.toNat_natCast]
      rw [e, ins_get _ _ _ _ (by omega)]
      refine Ev.bind hcp (Ev.done ?_)
      have h2 := dC hi
      rw [Int.toNat_natCast] at h2
      rw [← h2]
def oldestF (l : List TCached) : Nat → Nat → List TCached → Nat
  | b, _, [] => b
  | b, i, x :: r => oldestF l (if x.f2 < (l.getD b dCached).f2 then i else b) (i + 1) r
theorem oldestF_lt (l : List TCached) : ∀ (r : List TCached) (b i : Nat), b < l.length → i + r.length ≤ l.length → oldestF l b i r < l.length
  | [], b, i, hb, _ => hb
  | x :: r, b, i, hb, hi => by
    unfold oldestF
    simp only [List.length_cons] at hi
    refine oldestF_lt l r _ (i + 1) ?_ (by omega)
    split
    · omega
    · exact hb
def dropOld (l : List TCached) : List TCached := l.take (oldestF l 0 1 (l.drop 1)) ++ l.drop (oldestF l 0 1 (l.drop 1) + 1)
theorem dropOld_len {l : List TCached} (h : 0 < l.length) : (dropOld l).length = l.length - 1 := by
  have := oldestF_lt l (l.drop 1) 0 1 h (by simp; omega)
  unfold dropOld
  simp only [List.length_append, List.length_take, List.length_drop]
  omega
theorem lookup_p2 (rows : List TEntry) (d : Int) (c : TCache) (out : List TCached) (w : TValue) (hb : bagV rows = true) (hw : okV w = true) (hl : out.length ≤ 16) : ∀ i, i ≤ out.length → ∀ b, b < out.length →
    Ev (fun k => cache_Lookup.p2 k rows d (b : Int) (i : Int) c out w) (insC w ⟨w, selS rows c.f2 w, d⟩ (out.take (oldestF out b i (out.drop i)) ++ out.drop (oldestF out b i (out.drop i) + 1)), selS rows c.f2 w, 0) := by
  refine loop_down (P := fun i => ∀ b, b < out.length → Ev (fun k => cache_Lookup.p2 k rows d (b : Int) (i : Int) c out w) (insC w ⟨w, selS rows c.f2 w, d⟩ (out.take (oldestF out b i (out.drop i)) ++ out.drop (oldestF out b i (out.drop i) + 1)), selS rows c.f2 w, 0)) out.length ?_ ?_
  · intro b hbl
    refine Ev.succ ?_
    simp only [cache_Lookup.p2, decide_eq_true_eq]
    rw [List.drop_length]
    have hw1 : IntKind.i64.wrap ((b : Int) + 1) = ((b + 1 : Nat) : Int) := by rw [wr (by omega)]; omega
    have e1 : subL out (0 : Int) (b : Int) = out.take b := by simp [subL]
    have e2 : subL out ((b + 1 : Nat) : Int) ((out.length : Nat) : Int) = out.drop (b + 1) := by simp [subL]
    simp only [hw1, e1, e2]
    refine Ev.ite_neg (by omega) (Ev.ite_pos (by omega) (Ev.ite_pos (by omega) (Ev.ite_pos (by simp only [maxLen]; omega) ?_)))
    have := lookup_p3 rows d c (out.take b ++ out.drop (b + 1)) w hb hw (by simp; omega) 0 (by omega)
    simpa [oldestF] using this
  · intro i hi ih b hbl
    refine Ev.succ ?_
    simp only [cache_Lookup.p2, decide_eq_true_eq]
    refine Ev.ite_pos (by omega) (Ev.ite_pos (by omega) (Ev.ite_pos (by omega) ?_))
    have h2 := dC hi
    rw [wrn hi (by omega), h2]
    unfold oldestF
    by_cases hc : (out.getD (i : Int).toNat dCached).f2 < (out.getD (b : Int).toNat dCached).f2
    · refine Ev.ite_pos hc ?_
      have hc' : (out.getD (i : Int).toNat dCached).f2 < (out.getD b dCached).f2 := hc
      rw [if_pos hc']
      exact ih i hi
    · refine Ev.ite_neg hc ?_
      have hc' : ¬ (out.getD (i : Int).toNat dCached).f2 < (out.getD b dCached).f2 := hc
      rw [if_neg hc']
      exact ih b hbl
def lookF (rows : List TEntry) (d : Int) (c : TCache) (out : List TCached) (w : TValue) : List TCached → List TCached × List TEntry × Int
  | [] => (insC w ⟨w, selS rows c.f2 w, d⟩ (if 16 ≤ out.length then dropOld out else out), selS rows c.f2 w, 0)
  | x :: r => if x.f0 = w then (out, x.f1, 0) else lookF rows d c out w r
def lookS (c : TCache) (l : List TCached) (rows : List TEntry) (v : TValue) (d : Int) : List TCached × List TEntry × Int :=
  if cacheV l && (bagV rows && (okD c.f3 && okD d)) then lookF rows d c (expS c.f3 l d) (clV v) (expS c.f3 l d) else ([], [], 1)
theorem lookup_p1 (rows : List TEntry) (d : Int) (c : TCache) (out : List TCached) (w : TValue) (hb : bagV rows = true) (hw : okV w = true) (hl : out.length ≤ 16) (ho : ∀ x ∈ out, bagV x.f1 = true) : ∀ i, i ≤ out.length →
    Ev (fun k => cache_Lookup.p1 k rows d (i : Int) c out w) (lookF rows d c out w (out.drop i)) := by
  refine loop_down (P := fun i => Ev (fun k => cache_Lookup.p1 k rows d (i : Int) c out w) (lookF rows d c out w (out.drop i))) out.length ?_ ?_
  · refine Ev.succ ?_
    simp only [cache_Lookup.p1, decide_eq_true_eq]
    rw [List.drop_length]
    refine Ev.ite_neg (by omega) ?_
    unfold lookF
    by_cases h : 16 ≤ out.length
    · rw [if_pos h]
      exact Ev.ite_pos (by omega) (lookup_p2 rows d c out w hb hw hl 1 (by omega) 0 (by omega))
    · rw [if_neg h]
      refine Ev.ite_neg (by omega) ?_
      have := lookup_p3 rows d c out w hb hw hl 0 (by omega)
      simpa using this
  · intro i hi ih
    refine Ev.succ ?_
    simp only [cache_Lookup.p1, decide_eq_true_eq, eqV_iff]
    refine Ev.ite_pos (by omega) (Ev.ite_pos (by omega) ?_)
    have h2 := dC hi
    rw [wrn hi (by omega), h2]
    unfold lookF
    by_cases hc : (out.getD (i : Int).toNat dCached).f0 = w
    · rw [if_pos hc]; exact Ev.ite_pos hc (Ev.bind (copied_bag _ (ho _ (getD_mem _ hi))) (Ev.now _))
    · rw [if_neg hc]; exact Ev.ite_neg hc ih
theorem expS_mem {t d : Int} {l : List TCached} : ∀ x ∈ expS t l d, okV x.f0 = true ∧ bagV x.f1 = true ∧ okD x.f2 = true := by
  intro x hx
  unfold expS at hx
  split at hx
  · rename_i h
    simp only [Bool.and_eq_true] at h
    exact cacheV_mem h.1 x (List.mem_filter.1 hx).1
  · cases hx
theorem expS_len {t d : Int} {l : List TCached} : (expS t l d).length ≤ 16 := by
  unfold expS
  split
  · rename_i h
    simp only [Bool.and_eq_true] at h
    exact Nat.le_trans (List.length_filter_le _ _) (cacheV_len h.1)
  · simp
theorem Lookup_ev (c : TCache) (l : List TCached) (rows : List TEntry) (v : TValue) (d : Int) (hl : FinC l) (hr : Fin rows) : Ev (fun k => cache_Lookup k c l rows v d) (lookS c l rows v d) := by
  unfold cache_Lookup lookS
  refine Ev.bind (usable_ev c l rows d hl hr) ?_
  cases hu : cacheV l && (bagV rows && (okD c.f3 && okD d)) with
  | false => exact Ev.ite_pos rfl (Ev.now _)
  | true =>
    refine Ev.ite_neg (by simp) (Ev.bind (Expire_ev c l d hl) ?_)
    simp only [value_Clean_eq, Option.bind_some, if_true]
    simp only [Bool.and_eq_true] at hu
    exact lookup_p1 rows d c _ (clV v) hu.2.1 (okV_cl v) expS_len (fun x hx => (expS_mem x hx).2.1) 0 (by omega)
end Go.Proofs.YtjhnpaenhdbhpabV
set_option linter.unusedVariables false
set_option linter.unusedSimpArgs false
namespace Go.Proofs.YtjhnpaenhdbhpabV
open Go Go.RowKit
theorem cmpC_trans {a b c : TValue} (ha : okV a = true) (hb : okV b = true) (hc : okV c = true) (h1 : cmpC a b < 0) (h2 : cmpC b c < 0) : cmpC a c < 0 := by
  rw [cmpC_neg ha hb] at h1
  rw [cmpC_neg hb hc] at h2
  rw [cmpC_neg ha hc]
  rcases h1 with h1 | ⟨e1, h1⟩ <;> rcases h2 with h2 | ⟨e2, h2⟩
  · exact .inl (by omega)
  · exact .inl (by omega)
  · exact .inl (by omega)
  · refine .inr ⟨by omega, ?_⟩
    rcases ok_cases ha with ⟨a0, a1, a2⟩ | ⟨a0, a2⟩ | ⟨a0, a1⟩ <;> rcases ok_cases hb with ⟨b0, b1, b2⟩ | ⟨b0, b2⟩ | ⟨b0, b1⟩ <;> rcases ok_cases hc with ⟨c0, c1, c2⟩ | ⟨c0, c2⟩ | ⟨c0, c1⟩ <;> (try omega)
    · rw [a2, b2] at h1
      rcases h1 with h1 | h1
      · omega
      · exact absurd h1 (List.lt_irrefl _)
    · rw [a2, b2] at h1
      rw [b2, c2] at h2
      rcases h1 with h1 | h1
      · rcases h2 with h2 | h2
        · exact .inl (by omega)
        · exact absurd h2 (List.lt_irrefl _)
      · exact absurd h1 (List.lt_irrefl _)
    · rcases h1 with h1 | h1
      · omega
      · rcases h2 with h2 | h2
        · omega
        · exact .inr (List.lt_trans h1 h2)
theorem cmpV_trans {a b c : TValue} (h1 : cmpV a b < 0) (h2 : cmpV b c < 0) : cmpV a c < 0 := cmpC_trans (okV_cl a) (okV_cl b) (okV_cl c) h1 h2
theorem cmpV_swap (a b : TValue) : cmpV b a = - cmpV a b := cmpC_swap _ _
theorem cmpV_self (a : TValue) : cmpV a a = 0 := (cmpC_zero (okV_cl a) (okV_cl a)).2 rfl
theorem cmpV_zero {a b : TValue} (ha : okV a = true) (hb : okV b = true) : cmpV a b = 0 ↔ a = b := by
  unfold cmpV
  rw [clV_ok ha, clV_ok hb]
  exact cmpC_zero ha hb
end Go.Proofs.YtjhnpaenhdbhpabV
set_option linter.unusedVariables false
set_option linter.unusedSimpArgs false
namespace Go.Proofs.YtjhnpaenhdbhpabV
open Go Go.RowKit
def Ord (l : List TCached) : Prop := l.Pairwise fun x y => cmpV x.f0 y.f0 < 0
theorem ctF_ord : ∀ (l : List TCached) (p : Option TCached), ctF p l = true → Ord l ∧ ∀ q, p = some q → ∀ x ∈ l, cmpV q.f0 x.f0 < 0
  | [], _, _ => ⟨List.Pairwise.nil, fun _ _ x hx => by cases hx⟩
  | y :: l, p, h => by
    have h1 : ctF (some y) l = true ∧ ∀ q, p = some q → cmpV q.f0 y.f0 < 0 := by
      cases p with
      | none => simp only [ctF, Bool.and_eq_true] at h; exact ⟨h.2.2.2, fun q e => by cases e⟩
      | some p => simp only [ctF, Bool.and_eq_true, decide_eq_true_eq] at h; exact ⟨h.2.2.2.2, fun q e => by cases e; exact h.2.1⟩
    obtain ⟨i1, i2⟩ := ctF_ord l (some y) h1.1
    refine ⟨List.Pairwise.cons (fun x hx => i2 y rfl x hx) i1, fun q hq x hx => ?_⟩
    rcases List.mem_cons.1 hx with rfl | hx
    · exact h1.2 q hq
    · exact cmpV_trans (h1.2 q hq) (i2 y rfl x hx)
theorem cacheV_ord {l : List TCached} (h : cacheV l = true) : Ord l := by
  simp only [cacheV, Bool.and_eq_true] at h
  exact (ctF_ord l none h.1).1
theorem expS_ord {t d : Int} {l : List TCached} : Ord (expS t l d) := by
  unfold expS
  split
  · rename_i h
    simp only [Bool.and_eq_true] at h
    exact (cacheV_ord h.1).filter _
  · exact List.Pairwise.nil
def bubC (y : TCached) : List TCached → List TCached → List TCached
  | [], B => y :: B
  | a :: A, B => if cmpV y.f0 a.f0 < 0 then bubC y A (a :: B) else (a :: A).reverse ++ y :: B
theorem insC_cons (w : TValue) (y x : TCached) (l : List TCached) : insC w y (x :: l) = if cmpV x.f0 w < 0 then x :: insC w y l else y :: x :: l := rfl
theorem insC_app (w : TValue) (y : TCached) : ∀ (l B : List TCached), (∀ x ∈ l, cmpV x.f0 w < 0) → insC w y (l ++ B) = l ++ insC w y B
  | [], _, _ => rfl
  | x :: l, B, h => by
    show insC w y (x :: (l ++ B)) = _
    rw [insC_cons, if_pos (h x (List.mem_cons_self ..)), insC_app w y l B (fun z hz => h z (List.mem_cons_of_mem _ hz))]; rfl
theorem insC_gt (w : TValue) (y : TCached) (B : List TCached) (h : ∀ x ∈ B, ¬ cmpV x.f0 w < 0) : insC w y B = y :: B := by
  cases B with
  | nil => rfl
  | cons b B => unfold insC; rw [if_neg (h b (List.mem_cons_self ..))]
theorem bub_ins (w : TValue) (y : TCached) (hy : y.f0 = w) : ∀ (A B : List TCached), Ord (A.reverse ++ B) → (∀ x ∈ A.reverse ++ B, cmpV x.f0 w ≠ 0) → (∀ x ∈ B, ¬ cmpV x.f0 w < 0) → bubC y A B = insC w y (A.reverse ++ B)
  | [], B, _, _, hB => by unfold bubC; rw [List.reverse_nil, List.nil_append, insC_gt w y B hB]
  | a :: A, B, ho, hn, hB => by
    unfold bubC
    rw [hy]
    have ha0 := hn a (by simp)
    have hsw := cmpV_swap a.f0 w
    by_cases h : cmpV w a.f0 < 0
    · rw [if_pos h]
      have e : (a :: A).reverse ++ B = A.reverse ++ (a :: B) := by simp
      rw [e] at ho hn ⊢
      refine bub_ins w y hy A (a :: B) ho hn (fun x hx => ?_)
      rcases List.mem_cons.1 hx with rfl | hx
      · omega
      · exact hB x hx
    · rw [if_neg h]
      have hlt : cmpV a.f0 w < 0 := by omega
      have hall : ∀ x ∈ (a :: A).reverse, cmpV x.f0 w < 0 := by
        intro x hx
        rw [List.reverse_cons] at hx
        rcases List.mem_append.1 hx with hx | hx
        · have hp : Ord (A.reverse ++ [a]) := by
            have := (List.pairwise_append.1 ho).1
            rwa [List.reverse_cons] at this
          exact cmpV_trans ((List.pairwise_append.1 hp).2.2 x hx a (by simp)) hlt
        · rw [List.mem_singleton] at hx; subst hx; exact hlt
      rw [insC_app w y _ B hall, insC_gt w y B hB]
end Go.Proofs.YtjhnpaenhdbhpabV
set_option linter.unusedVariables false
set_option linter.unusedSimpArgs false
namespace Go.Proofs.YtjhnpaenhdbhpabV
open Go Go.RowKit
theorem getD_at {α : Type} (d x : α) (P Q : List α) (n : Int) (hn : n = (P.length : Int)) : (P ++ x :: Q).getD n.toNat d = x := by
  subst hn
  rw [Int.toNat_natCast, List.getD_eq_getElem?_getD, List.getElem?_append_right (Nat.le_refl _)]; simp
theorem set_at {α : Type} (x y : α) (P Q : List α) (n : Nat) (hn : n = P.length) : (P ++ x :: Q).set n y = P ++ y :: Q := by
  subst hn
  rw [List.set_append_right _ _ (Nat.le_refl _), Nat.sub_self]; rfl
theorem refLookup_p3 (rows : List TEntry) (c : TCache) (w : TValue) (y : TCached) (hb : bagV rows = true) (hw : okV w = true) : ∀ (A B : List TCached), A.length ≤ 100 →
    Ev (fun k => erasureref30_Lookup.p3 k rows (A.length : Int) c w (A.reverse ++ y :: B)) (bubC y A B, selS rows c.f2 w, 0) := by
  have hsel : Ev (fun k => erasureref30_Select k rows c.f2 w) (selS rows c.f2 w) := by
    have := refSel_ev rows c.f2 w (by have := bagV_len hb; omega)
    rwa [show clV w = w from if_pos hw] at this
  intro A
  induction A with
  | nil =>
    intro B _
    refine Ev.succ ?_
    simp only [erasureref30_Lookup.p3, decide_eq_true_eq]
    exact Ev.ite_neg (by simp) (Ev.bind hsel (Ev.now _))
  | cons a A ih =>
    intro B hl
    simp only [List.length_cons] at hl
    refine Ev.succ ?_
    simp only [erasureref30_Lookup.p3, decide_eq_true_eq, ref01_Compare_eq, Option.bind_some]
    have hw1 : IntKind.i64.wrap (((a :: A).length : Int) - 1) = (A.length : Int) := by rw [wr (by simp; omega)]; simp
    have e0 : (a :: A).reverse ++ y :: B = A.reverse ++ a :: (y :: B) := by simp
    have e1 : ((a :: A).reverse ++ y :: B).getD ((a :: A).length : Int).toNat dCached = y := getD_at _ _ _ _ _ (by simp)
    have e2 : ((a :: A).reverse ++ y :: B).getD (A.length : Int).toNat dCached = a := by rw [e0]; exact getD_at _ _ _ _ _ (by simp)
    have e3 : (((a :: A).reverse ++ y :: B).set (A.length : Int).toNat y).set ((a :: A).length : Int).toNat a = A.reverse ++ y :: (a :: B) := by
      rw [e0, Int.toNat_natCast, Int.toNat_natCast, set_at a y A.reverse (y :: B) A.length (by simp)]
      have e4 : A.reverse ++ y :: (y :: B) = (A.reverse ++ [y]) ++ y :: B := by simp
      rw [e4, set_at y a (A.reverse ++ [y]) B (a :: A).length (by simp)]
      simp
    simp only [hw1, e1, e2, e3]
    refine Ev.ite_pos (by simp only [List.length_cons]; omega) (Ev.ite_pos (by simp only [List.length_append, List.length_reverse, List.length_cons]; omega) (Ev.ite_pos (by simp only [List.length_append, List.length_reverse, List.length_cons]; omega) ?_))
    unfold bubC
    by_cases hc : cmpV y.f0 a.f0 < 0
    · rw [if_pos hc]; exact Ev.ite_pos hc (ih (a :: B) (by omega))
    · rw [if_neg hc]; exact Ev.ite_neg hc (Ev.bind hsel (Ev.now _))
theorem without_ev (l : List TCached) (v : TValue) (hl : l.length ≤ 1099511627776) : Ev (fun k => erasureref30_without k l v) (l.filter fun x => !decide (x.f0 = v)) := by
  unfold erasureref30_without
  have key : ∀ i, i ≤ l.length → ∀ acc : List TCached, acc.length ≤ i → Ev (fun k => erasureref30_without.p1 k l (i : Int) v acc) (acc ++ (l.drop i).filter fun x => !decide (x.f0 = v)) := by
    refine loop_down (P := fun i => ∀ acc : List TCached, acc.length ≤ i → Ev (fun k => erasureref30_without.p1 k l (i : Int) v acc) (acc ++ (l.drop i).filter fun x => !decide (x.f0 = v))) l.length ?_ ?_
    · intro acc _
      refine Ev.succ ?_
      simp only [erasureref30_without.p1, decide_eq_true_eq]
      rw [List.drop_length]
      exact Ev.ite_neg (by omega) (Ev.done (by simp))
    · intro i hi ih acc ha
      refine Ev.succ ?_
      simp only [erasureref30_without.p1, eqV_iff, decide_eq_true_eq]
      rw [dC hi, wrn hi (by omega), List.filter_cons]
      refine Ev.ite_pos (by omega) (Ev.ite_pos (by omega) ?_)
      cases hc : !decide ((l.getD (i : Int).toNat dCached).f0 = v) with
      | true =>
        refine Ev.ite_pos rfl (Ev.ite_pos (by simp only [maxLen, List.length_singleton]; omega) ?_)
        exact (ih (acc ++ [l.getD (i : Int).toNat dCached]) (by simp; omega)).to (by simp only [if_true, List.append_assoc, List.singleton_append])
      | false => exact Ev.ite_neg (by simp) (ih acc (by omega))
  exact key 0 (by omega) [] (by simp)
theorem filter_other : ∀ (l : List TCached) (n : Nat), Ord l → n < l.length → (l.filter fun x => !decide (x.f0 = (l.getD n dCached).f0)) = l.take n ++ l.drop (n + 1)
  | [], n, _, h => by simp at h
  | a :: l, 0, ho, _ => by
    have hne : ∀ x ∈ l, (!decide (x.f0 = a.f0)) = true := by
      intro x hx
      have := (List.pairwise_cons.1 ho).1 x hx
      rw [Bool.not_eq_true', decide_eq_false_iff_not]
      intro e; rw [e, cmpV_self] at this; omega
    show (List.filter (fun x => !decide (x.f0 = a.f0)) (a :: l)) = l
    rw [List.filter_cons, if_neg (by simp), List.filter_eq_self.2 hne]
  | a :: l, n + 1, ho, h => by
    have hn : n < l.length := by simpa using h
    have ih := filter_other l n (List.pairwise_cons.1 ho).2 hn
    have hm : l.getD n dCached ∈ l := by rw [List.getD_eq_getElem?_getD, List.getElem?_eq_getElem hn]; exact List.getElem_mem _
    have hne : a.f0 ≠ (l.getD n dCached).f0 := fun e => by
      have := (List.pairwise_cons.1 ho).1 _ hm
      rw [← e, cmpV_self] at this; omega
    show (List.filter (fun x => !decide (x.f0 = (l.getD n dCached).f0)) (a :: l)) = a :: (l.take n ++ l.drop (n + 1))
    rw [List.filter_cons, if_pos (by rw [decide_eq_false hne]; rfl), ih]
theorem refLookup_p2 (rows : List TEntry) (d : Int) (c : TCache) (out : List TCached) (w : TValue) (hb : bagV rows = true) (hw : okV w = true) (hl : out.length ≤ 16) (ho : Ord out) (hn : ∀ x ∈ out, cmpV x.f0 w ≠ 0) : ∀ i, i ≤ out.length → ∀ b, b < out.length →
    Ev (fun k => erasureref30_Lookup.p2 k rows d (b : Int) (i : Int) c w out) (insC w ⟨w, selS rows c.f2 w, d⟩ (out.take (oldestF out b i (out.drop i)) ++ out.drop (oldestF out b i (out.drop i) + 1)), selS rows c.f2 w, 0) := by
  have hsel : Ev (fun k => erasureref30_Select k rows c.f2 w) (selS rows c.f2 w) := by
    have := refSel_ev rows c.f2 w (by have := bagV_len hb; omega)
    rwa [show clV w = w from if_pos hw] at this
  refine loop_down (P := fun i => ∀ b, b < out.length → Ev (fun k => erasureref30_Lookup.p2 k rows d (b : Int) (i : Int) c w out) (insC w ⟨w, selS rows c.f2 w, d⟩ (out.take (oldestF out b i (out.drop i)) ++ out.drop (oldestF out b i (out.drop i) + 1)), selS rows c.f2 w, 0)) out.length ?_ ?_
  · intro b hbl
    refine Ev.succ ?_
    simp only [erasureref30_Lookup.p2, decide_eq_true_eq, List.nil_append]
    rw [List.drop_length]
    have hwo : Ev (fun k => erasureref30_without k out ((out.getD (b : Int).toNat dCached).f0)) (out.take b ++ out.drop (b + 1)) := by
      have := without_ev out ((out.getD b dCached).f0) (by omega)
      rw [filter_other out b ho hbl] at this
      exact this
    have hlen : (out.take b ++ out.drop (b + 1)).length ≤ 16 := by simp; omega
    have hsub : (out.take b ++ out.drop (b + 1)).Sublist out := by
      have := List.Sublist.append (List.Sublist.refl (out.take b)) (List.drop_sublist 1 (out.drop b))
      rw [List.take_append_drop, List.drop_drop] at this
      exact this
    refine Ev.ite_neg (by omega) (Ev.ite_pos (by omega) (Ev.bind hwo ?_))
    show Ev _ (insC w ⟨w, selS rows c.f2 w, d⟩ (out.take b ++ out.drop (b + 1)), selS rows c.f2 w, 0)
    generalize hO : out.take b ++ out.drop (b + 1) = O at *
    refine Ev.ite_pos (by simp only [maxLen, List.length_nil]; omega) (Ev.bind hsel (Ev.ite_pos (by simp only [maxLen, List.length_singleton]; omega) ?_))
    have hw1 : IntKind.i64.wrap (((O ++ [(TCached.mk w (selS rows c.f2 w) d)]).length : Int) - 1) = (O.reverse.length : Int) := by rw [wr (by simp; omega)]; simp
    rw [hw1]
    have := refLookup_p3 rows c w ⟨w, selS rows c.f2 w, d⟩ hb hw O.reverse [] (by simp; omega)
    rw [List.reverse_reverse] at this
    refine this.to ?_
    rw [bub_ins w _ rfl O.reverse [] (by rw [List.reverse_reverse, List.append_nil]; exact List.Pairwise.sublist hsub ho) (by rw [List.reverse_reverse, List.append_nil]; exact fun x hx => hn x (hsub.subset hx)) (fun x hx => by cases hx), List.reverse_reverse, List.append_nil]
  · intro i hi ih b hbl
    refine Ev.succ ?_
    simp only [erasureref30_Lookup.p2, decide_eq_true_eq]
    refine Ev.ite_pos (by omega) (Ev.ite_pos (by omega) (Ev.ite_pos (by omega) ?_))
    have h2 := dC hi
    rw [wrn hi (by omega), h2]
    unfold oldestF
    by_cases hc : (out.getD (i : Int).toNat dCached).f2 < (out.getD (b : Int).toNat dCached).f2
    · refine Ev.ite_pos hc ?_
      have hc' : (out.getD (i : Int).toNat dCached).f2 < (out.getD b dCached).f2 := hc
      rw [if_pos hc']
      exact ih i hi
    · refine Ev.ite_neg hc ?_
      have hc' : ¬ (out.getD (i : Int).toNat dCached).f2 < (out.getD b dCached).f2 := hc
      rw [if_neg hc']
      exact ih b hbl
theorem refLookup_p1 (rows : List TEntry) (d : Int) (c : TCache) (out : List TCached) (w : TValue) (hb : bagV rows = true) (hw : okV w = true) (hl : out.length ≤ 16) (ho : Ord out) (hv : ∀ x ∈ out, okV x.f0 = true) : ∀ i, i ≤ out.length → (∀ x ∈ out.take i, x.f0 ≠ w) →
    Ev (fun k => erasureref30_Lookup.p1 k rows d (i : Int) c w out) (lookF rows d c out w (out.drop i)) := by
  have hsel : Ev (fun k => erasureref30_Select k rows c.f2 w) (selS rows c.f2 w) := by
    have := refSel_ev rows c.f2 w (by have := bagV_len hb; omega)
    rwa [show clV w = w from if_pos hw] at this
  refine loop_down (P := fun i => (∀ x ∈ out.take i, x.f0 ≠ w) → Ev (fun k => erasureref30_Lookup.p1 k rows d (i : Int) c w out) (lookF rows d c out w (out.drop i))) out.length ?_ ?_
  · intro hne
    rw [List.take_length] at hne
    have hn : ∀ x ∈ out, cmpV x.f0 w ≠ 0 := fun x hx e => hne x hx ((cmpV_zero (hv x hx) hw).1 e)
    refine Ev.succ ?_
    simp only [erasureref30_Lookup.p1, decide_eq_true_eq, List.nil_append]
    rw [List.drop_length]
    refine Ev.ite_neg (by omega) ?_
    unfold lookF
    by_cases h : 16 ≤ out.length
    · rw [if_pos h]
      exact Ev.ite_pos (by omega) (refLookup_p2 rows d c out w hb hw hl ho hn 1 (by omega) 0 (by omega))
    · rw [if_neg h]
      refine Ev.ite_neg (by omega) (Ev.ite_pos (by simp only [maxLen, List.length_nil]; omega) (Ev.bind hsel (Ev.ite_pos (by simp only [maxLen, List.length_singleton]; omega) ?_)))
      have hw1 : IntKind.i64.wrap (((out ++ [(TCached.mk w (selS rows c.f2 w) d)]).length : Int) - 1) = (out.reverse.length : Int) := by rw [wr (by simp; omega)]; simp
      rw [hw1]
      have := refLookup_p3 rows c w ⟨w, selS rows c.f2 w, d⟩ hb hw out.reverse [] (by simp; omega)
      rw [List.reverse_reverse] at this
      refine this.to ?_
      rw [bub_ins w _ rfl out.reverse [] (by rw [List.reverse_reverse, List.append_nil]; exact ho) (by rw [List.reverse_reverse, List.append_nil]; exact hn) (fun x hx => by cases hx), List.reverse_reverse, List.append_nil]
  · intro i hi ih hne
    refine Ev.succ ?_
    simp only [erasureref30_Lookup.p1, decide_eq_true_eq, eqV_iff]
    refine Ev.ite_pos (by omega) (Ev.ite_pos (by omega) ?_)
    have h2 := dC hi
    rw [wrn hi (by omega), h2]
    unfold lookF
    by_cases hc : (out.getD (i : Int).toNat dCached).f0 = w
    · rw [if_pos hc]; exact Ev.ite_pos hc (Ev.now _)
    · rw [if_neg hc]
      refine Ev.ite_neg hc (ih ?_)
      have e5 : out.take (i + 1) = out.take i ++ [out.getD (i : Int).toNat dCached] := by
        rw [List.take_add_one]
        congr 1
        rw [Int.toNat_natCast, List.getD_eq_getElem?_getD, List.getElem?_eq_getElem hi]; rfl
      intro x hx
      rw [e5] at hx
      rcases List.mem_append.1 hx with hx | hx
      · exact hne x hx
      · rw [List.mem_singleton] at hx; subst hx; exact hc
theorem refLookup_ev (c : TCache) (l : List TCached) (rows : List TEntry) (v : TValue) (d : Int) (hl : FinC l) (hr : Fin rows) : Ev (fun k => erasureref30_Lookup k c l rows v d) (lookS c l rows v d) := by
  unfold erasureref30_Lookup lookS
  refine Ev.bind (ref30_Valid_ev l hl) ?_
  cases hv : cacheV l with
  | false => exact Ev.ite_pos rfl (Ev.now _)
  | true =>
    refine Ev.ite_neg (by simp) (Ev.bind (ref06_Valid_ev rows hr) ?_)
    cases hb : bagV rows with
    | false => exact Ev.ite_pos rfl (Ev.now _)
    | true =>
      refine Ev.ite_neg (by simp) ?_
      simp only [ranged_eq, Option.bind_some, ref01_Clean_eq]
      cases ht : okD c.f3 && okD d with
      | false => exact Ev.ite_pos rfl (Ev.now _)
      | true =>
        refine Ev.ite_neg (by simp) (Ev.bind (refExpire_ev c l d hl) ?_)
        exact refLookup_p1 rows d c _ (clV v) hb (okV_cl v) expS_len expS_ord (fun x hx => (expS_mem x hx).1) 0 (by omega) (fun x hx => by simp at hx)
end Go.Proofs.YtjhnpaenhdbhpabV
set_option linter.unusedVariables false
set_option linter.unusedSimpArgs false
namespace Go.Proofs.YtjhnpaenhdbhpabV
open Go Go.RowKit
theorem ref22_SameRow_ev (a b : List TValue) (ha : a.length ≤ 9223372036854775807) : Ev (fun k => erasureref22_SameRow k a b) (decide (a = b)) := by
  unfold erasureref22_SameRow
  simp only [bne_iff_ne, ne_eq, ite_not]
  by_cases hl : a.length = b.length
  · refine Ev.ite_pos (by omega) ?_
    refine (loop_down (P := fun i => Ev (fun k => erasureref22_SameRow.p1 k a b (i : Int)) (decide (a.drop i = b.drop i))) a.length ?_ ?_ 0 (by omega))
    · refine Ev.succ ?_
      simp only [erasureref22_SameRow.p1, decide_eq_true_eq]
      rw [List.drop_length, List.drop_eq_nil_of_le (show b.length ≤ a.length by omega)]
      exact Ev.ite_neg (by omega) (Ev.done (by simp))
    · intro i hi ih
      refine Ev.succ ?_
      simp only [erasureref22_SameRow.p1, eqV_iff, decide_eq_true_eq, Bool.not_eq_true', decide_eq_false_iff_not]
      refine Ev.ite_pos (by omega) (Ev.ite_pos (by omega) (Ev.ite_pos (by omega) ?_))
      rw [dV hi, dV (show i < b.length by omega), wrn hi ha]
      by_cases h : a.getD (i : Int).toNat dValue = b.getD (i : Int).toNat dValue
      · exact Ev.ite_neg (fun e => e h) (ih.to (by rw [h]; simp))
      · exact Ev.ite_pos h (Ev.done (by rw [decide_eq_false]; intro e; exact h (List.cons.inj e).1))
  · refine Ev.ite_neg (by omega) (Ev.done ?_)
    rw [decide_eq_false (fun e => hl (by rw [e]))]
theorem E_ext {x y : TEntry} (h0 : x.f0 = y.f0) (h1 : x.f1 = y.f1) : x = y := by cases x; cases y; simp_all
instance : DecidableEq TEntry := fun x y => decidable_of_iff (x.f0 = y.f0 ∧ x.f1 = y.f1) ⟨fun h => E_ext h.1 h.2, fun h => by subst h; exact ⟨rfl, rfl⟩⟩
theorem ref22_SameBag_ev (a b : List TEntry) (ha : Fin a) : Ev (fun k => erasureref22_SameBag k a b) (decide (a = b)) := by
  unfold erasureref22_SameBag
  simp only [bne_iff_ne, ne_eq, ite_not]
  by_cases hl : a.length = b.length
  · refine Ev.ite_pos (by omega) ?_
    refine (loop_down (P := fun i => Ev (fun k => erasureref22_SameBag.p1 k a b (i : Int)) (decide (a.drop i = b.drop i))) a.length ?_ ?_ 0 (by omega))
    · refine Ev.succ ?_
      simp only [erasureref22_SameBag.p1, decide_eq_true_eq]
      rw [List.drop_length, List.drop_eq_nil_of_le (show b.length ≤ a.length by omega)]
      exact Ev.ite_neg (by omega) (Ev.done (by simp))
    · intro i hi ih
      refine Ev.succ ?_
      simp only [erasureref22_SameBag.p1, decide_eq_true_eq, Bool.not_eq_true', bne_iff_ne, ne_eq, ite_not]
      refine Ev.ite_pos (by omega) (Ev.ite_pos (by omega) (Ev.ite_pos (by omega) ?_))
      rw [dE hi, dE (show i < b.length by omega), wrn hi ha.1]
      refine Ev.bind (ref22_SameRow_ev _ _ (ha.2 _ (getD_mem _ hi))) ?_
      by_cases h0 : (a.getD (i : Int).toNat dEntry).f0 = (b.getD (i : Int).toNat dEntry).f0
      · rw [decide_eq_true h0]
        refine Ev.ite_neg (by simp) ?_
        by_cases h1 : (a.getD (i : Int).toNat dEntry).f1 = (b.getD (i : Int).toNat dEntry).f1
        · exact Ev.ite_pos h1 (ih.to (by rw [E_ext h0 h1]; simp))
        · refine Ev.ite_neg h1 (Ev.done ?_)
          rw [decide_eq_false]
          intro e; exact h1 (by rw [(List.cons.inj e).1])
      · rw [decide_eq_false h0]
        refine Ev.ite_pos rfl (Ev.done ?_)
        rw [decide_eq_false]
        intro e; exact h0 (by rw [(List.cons.inj e).1])
  · refine Ev.ite_neg (by omega) (Ev.done ?_)
    rw [decide_eq_false (fun e => hl (by rw [e]))]
theorem ref26_SameBag_ev (a b : List TEntry) (ha : Fin a) : Ev (fun k => erasureref26_SameBag k a b) (decide (a = b)) := by
  unfold erasureref26_SameBag
  exact Ev.bind (ref22_SameBag_ev a b ha) (Ev.now _)
end Go.Proofs.YtjhnpaenhdbhpabV
set_option linter.unusedVariables false
set_option linter.unusedSimpArgs false
namespace Go.Proofs.YtjhnpaenhdbhpabV
open Go Go.RowKit
def EvU {ρ α : Type} (c : ρ → Prop) (g : ρ → Nat → Option α) (r : α) : Prop := ∃ K, ∀ x, c x → ∀ k, K ≤ k → g x k = some r
theorem EvU.of {ρ α : Type} {c : ρ → Prop} {g : Nat → Option α} {r : α} (h : Ev g r) : EvU c (fun _ k => g k) r := by obtain ⟨K, h⟩ := h; exact ⟨K, fun _ _ k hk => h k hk⟩
theorem EvU.now {ρ α : Type} {c : ρ → Prop} (r : α) : EvU c (fun _ _ => some r) r := ⟨0, fun _ _ _ _ => rfl⟩
theorem EvU.done {ρ α : Type} {c : ρ → Prop} {a r : α} (h : a = r) : EvU c (fun _ _ => some a) r := by subst h; exact EvU.now _
theorem EvU.bind {ρ α β : Type} {c : ρ → Prop} {f : Nat → Option α} {g : ρ → Nat → α → Option β} {a : α} {r : β} (h : Ev f a) (h' : EvU c (fun x k => g x k a) r) : EvU c (fun x k => (f k).bind (g x k)) r := by
  obtain ⟨K, h⟩ := h; obtain ⟨L, h'⟩ := h'
  exact ⟨max K L, fun x hx k hk => by show (f k).bind (g x k) = some r; rw [h k (by omega)]; exact h' x hx k (by omega)⟩
theorem EvU.succ {ρ α : Type} {c : ρ → Prop} {g : ρ → Nat → Option α} {r : α} (h : EvU c (fun x k => g x (k + 1)) r) : EvU c g r := by
  obtain ⟨K, h⟩ := h
  exact ⟨K + 1, fun x hx k hk => by obtain ⟨m, rfl⟩ : ∃ m, k = m + 1 := ⟨k - 1, by omega⟩; exact h x hx m (by omega)⟩
theorem EvU.congr {ρ α : Type} {c : ρ → Prop} {f g : ρ → Nat → Option α} {r : α} (h : ∀ x k, g x k = f x k) (k : EvU c f r) : EvU c g r := by rw [show g = f from funext fun x => funext (h x)]; exact k
theorem EvU.ite_pos {ρ α : Type} {q : ρ → Prop} {g f : ρ → Nat → Option α} {r : α} {c : Prop} [Decidable c] (h : c) (k : EvU q g r) : EvU q (fun x n => if c then g x n else f x n) r := EvU.congr (fun x n => if_pos h) k
theorem EvU.ite_neg {ρ α : Type} {q : ρ → Prop} {g f : ρ → Nat → Option α} {r : α} {c : Prop} [Decidable c] (h : ¬ c) (k : EvU q f r) : EvU q (fun x n => if c then g x n else f x n) r := EvU.congr (fun x n => if_neg h) k
theorem EvU.to {ρ α : Type} {q : ρ → Prop} {g : ρ → Nat → Option α} {r s : α} (h : EvU q g r) (e : r = s) : EvU q g s := by subst e; exact h
theorem get_put {K V : Type} (k k' : K) (x z : V) : ∀ m : List (K × V), (k' = k → getM (putM m k x) k' z = x) ∧ (k' ≠ k → getM (putM m k x) k' z = getM m k' z)
  | [] => by
    constructor
    · rintro rfl; simp [putM, getM]
    · intro h; simp only [putM, getM]; rw [if_neg (fun e => h e.symm)]
  | e :: m => by
    obtain ⟨h1, h2⟩ := get_put k k' x z m
    simp only [putM]
    by_cases he : e.1 = k
    · rw [if_pos he]
      constructor
      · rintro rfl; simp [getM]
      · intro h
        have : e.1 ≠ k' := fun q => h (q.symm.trans he)
        simp only [getM]; rw [if_neg (fun e => h e.symm), if_neg this]
    · rw [if_neg he]
      constructor
      · intro h
        have : e.1 ≠ k' := fun q => he (q.trans h)
        simp [getM, this, h1 h]
      · intro h
        simp only [getM]
        by_cases hk : e.1 = k'
        · simp [hk]
        · simp [hk, h2 h]
theorem getM_nil {K V : Type} (k : K) (z : V) : getM ([] : List (K × V)) k z = z := rfl
end Go.Proofs.YtjhnpaenhdbhpabV
set_option linter.unusedVariables false
set_option linter.unusedSimpArgs false
set_option maxRecDepth 100000
namespace Go.Proofs.YtjhnpaenhdbhpabV
open Go Go.RowKit
noncomputable def erasurelaw30_CacheSelects  (k : Nat) (rows0 : (List TEntry)) (column1 : Int) (v2 : TValue) : Option Bool := (erasurelaw30_short k rows0).bind fun y_1 => (if (!y_1) = true then ((erasurelaw30_awake k ).bind fun y_4 => (some y_4)) else ((cache_Select k rows0 column1 v2).bind fun y_6 => ((erasureref30_Select k rows0 column1 v2).bind fun y_8 => ((erasureref26_SameBag k y_6 y_8).bind fun y_10 => (if y_10 = true then ((erasurelaw30_awake k ).bind fun y_13 => (some y_13)) else (some false))))))
noncomputable def erasurelaw30_CacheSelects.t : List Item := [.code (bodyOf Try.f3)]
noncomputable def erasurelaw30_CacheSelects.s (rows0 : (List TEntry)) (column1 : Int) (v2 : TValue) : St := ⟨frOf Try.f3.ntmps 0 [(0, .p (eL 2 cEntry dEntry rows0)), (1, .p (.int .i64 column1)), (2, .agg ((cValue v2).map .p))], []⟩
theorem erasurelaw30_CacheSelects.run   {k : Nat} {rows0 : (List TEntry)} {column1 : Int} {v2 : TValue} {r : Bool} (h : erasurelaw30_CacheSelects k rows0 column1 v2 = some r) : RunC Try.prog Try.f3 erasurelaw30_CacheSelects.t (erasurelaw30_CacheSelects.s rows0 column1 v2) (.p (.bool r)) [] := by
  unfold erasurelaw30_CacheSelects at h
  obtain ⟨y_1, e_2, h⟩ := bind_or h
  rcases ite_or h with ⟨g_3, h⟩ | ⟨g_3, h⟩
  · obtain ⟨y_4, e_5, h⟩ := bind_or h
    obtain rfl := Option.some.inj h
    exact RunC.out [.n 4, .r [(1, .call (.p (.bool y_1)) []), (2, .dec true)], .n 2, .r [(0, .call (.p (.bool y_4)) [])]] (by kernel_rfl) (Obs.of (by kernel_rfl) (And.intro (erasurelaw30_short.spec e_2) (And.intro g_3 (erasurelaw30_awake.spec e_5))))
  · obtain ⟨y_6, e_7, h⟩ := bind_or h
    obtain ⟨y_8, e_9, h⟩ := bind_or h
    obtain ⟨y_10, e_11, h⟩ := bind_or h
    rcases ite_or h with ⟨g_12, h⟩ | ⟨g_12, h⟩
    · obtain ⟨y_13, e_14, h⟩ := bind_or h
      obtain rfl := Option.some.inj h
      exact RunC.out [.n 4, .r [(1, .call (.p (.bool y_1)) []), (2, .dec false)], .n 3, .r [(3, .call (.sref 0 36 2 (y_6).length) [(oL true 36 2 cEntry dEntry y_6)]), (7, .call (.sref 0 36 2 (y_8).length) [(oL true 36 2 cEntry dEntry y_8)]), (8, .call (.p (.bool y_10)) []), (9, .dec true), (10, .call (.p (.bool y_13)) [])]] (by kernel_rfl) (Obs.of (by kernel_rfl) (And.intro (erasurelaw30_short.spec e_2) (And.intro (nt g_3) (And.intro (cache_Select.spec e_7) (And.intro (erasureref30_Select.spec e_9) (And.intro (erasureref26_SameBag.spec e_11) (And.intro g_12 (erasurelaw30_awake.spec e_14))))))))
    · obtain rfl := Option.some.inj h
      exact RunC.out [.n 4, .r [(1, .call (.p (.bool y_1)) []), (2, .dec false)], .n 3, .r [(3, .call (.sref 0 36 2 (y_6).length) [(oL true 36 2 cEntry dEntry y_6)]), (7, .call (.sref 0 36 2 (y_8).length) [(oL true 36 2 cEntry dEntry y_8)]), (8, .call (.p (.bool y_10)) []), (9, .dec false)]] (by kernel_rfl) (Obs.of (by kernel_rfl) (And.intro (erasurelaw30_short.spec e_2) (And.intro (nt g_3) (And.intro (cache_Select.spec e_7) (And.intro (erasureref30_Select.spec e_9) (And.intro (erasureref26_SameBag.spec e_11) (nt g_12)))))))
theorem erasurelaw30_CacheSelects.mono   : ∀ (k k' : Nat) (rows0 : (List TEntry)) (column1 : Int) (v2 : TValue) (r : Bool), k ≤ k' → erasurelaw30_CacheSelects k rows0 column1 v2 = some r → erasurelaw30_CacheSelects k' rows0 column1 v2 = some r := by
  intro k k' rows0 column1 v2 r hk h
  unfold erasurelaw30_CacheSelects at h ⊢
  obtain ⟨y_1, e_2, h⟩ := bind_or h
  refine bnd (erasurelaw30_short.mono _ _ _ _ hk e_2) ?_
  rcases ite_or h with ⟨g_3, h⟩ | ⟨g_3, h⟩
  · refine itp g_3 ?_
    obtain ⟨y_4, e_5, h⟩ := bind_or h
    refine bnd (erasurelaw30_awake.mono _ _  _ hk e_5) ?_
    exact h
  · refine itn g_3 ?_
    obtain ⟨y_6, e_7, h⟩ := bind_or h
    refine bnd (cache_Select.mono _ _ _ _ _ _ hk e_7) ?_
    obtain ⟨y_8, e_9, h⟩ := bind_or h
    refine bnd (erasureref30_Select.mono _ _ _ _ _ _ hk e_9) ?_
    obtain ⟨y_10, e_11, h⟩ := bind_or h
    refine bnd (erasureref26_SameBag.mono _ _ _ _ _ hk e_11) ?_
    rcases ite_or h with ⟨g_12, h⟩ | ⟨g_12, h⟩
    · refine itp g_12 ?_
      obtain ⟨y_13, e_14, h⟩ := bind_or h
      refine bnd (erasurelaw30_awake.mono _ _  _ hk e_14) ?_
      exact h
    · refine itn g_12 ?_
      exact h
theorem erasurelaw30_CacheSelects.spec {k : Nat} {rows0 : (List TEntry)} {column1 : Int} {v2 : TValue} {r : Bool} (h : erasurelaw30_CacheSelects k rows0 column1 v2 = some r) : Spec Try.prog 3 [.p (eL 2 cEntry dEntry rows0), .p (.int .i64 column1), .agg ((cValue v2).map .p)] (.p (.bool r)) [] :=
  spec_of mix Try.func3 (body := bodyOf Try.f3) (by kernel_rfl) (by kernel_rfl) (erasurelaw30_CacheSelects.run h)
end Go.Proofs.YtjhnpaenhdbhpabV
set_option linter.unusedVariables false
set_option linter.unusedSimpArgs false
namespace Go.Proofs.YtjhnpaenhdbhpabV
open Go Go.RowKit
theorem short_ev (l : List TEntry) (hl : l.length ≤ 9223372036854775807) : Ev (fun k => erasurelaw30_short k l) (l.all (fun e => decide (e.f0.length ≤ 20)) && decide (l.length ≤ 40)) := by
  unfold erasurelaw30_short
  refine (loop_down (P := fun i => Ev (fun k => erasurelaw30_short.p1 k l (i : Int)) ((l.drop i).all (fun e => decide (e.f0.length ≤ 20)) && decide (l.length ≤ 40))) l.length ?_ ?_ 0 (by omega))
  · refine Ev.succ ?_
    simp only [erasurelaw30_short.p1, decide_eq_true_eq]
    rw [List.drop_length]
    refine Ev.ite_neg (by omega) (Ev.done ?_)
    simp; omega
  · intro i hi ih
    refine Ev.succ ?_
    simp only [erasurelaw30_short.p1, decide_eq_true_eq]
    refine Ev.ite_pos (by omega) (Ev.ite_pos (by omega) ?_)
    rw [dE hi, wrn hi hl, List.all_cons]
    by_cases h : (l.getD (i : Int).toNat dEntry).f0.length ≤ 20
    · rw [decide_eq_true h]; exact Ev.ite_neg (by omega) (by simpa using ih)
    · rw [decide_eq_false h]; exact Ev.ite_pos (by omega) (Ev.done (by simp))
end Go.Proofs.YtjhnpaenhdbhpabV
set_option linter.unusedVariables false
set_option linter.unusedSimpArgs false
namespace Go.Proofs.YtjhnpaenhdbhpabV
open Go Go.RowKit
def refF (rows : List TEntry) (c d : Int) (x : TCached) : Option TCached := if selS rows c (clV x.f0) = [] then none else some ⟨x.f0, selS rows c (clV x.f0), d⟩
def refS (c : TCache) (s : List TCached) (rows : List TEntry) (d : Int) : List TCached := if cacheV s && (bagV rows && (okD c.f3 && okD d)) then s.filterMap (refF rows c.f2 d) else []
theorem len_pos_iff {α : Type} (l : List α) : ((l.length : Int) > 0) ↔ l ≠ [] := by cases l <;> simp <;> omega
theorem Refill_ev (c : TCache) (s : List TCached) (rows : List TEntry) (d : Int) (hs : FinC s) (hr : Fin rows) : Ev (fun k => cache_Refill k c s rows d) (refS c s rows d) := by
  unfold cache_Refill refS
  refine Ev.bind (usable_ev c s rows d hs hr) ?_
  cases hu : cacheV s && (bagV rows && (okD c.f3 && okD d)) with
  | false => exact Ev.ite_pos rfl (Ev.now _)
  | true =>
    refine Ev.ite_neg (by simp) ?_
    simp only [Bool.and_eq_true] at hu
    have hl := cacheV_len hu.1
    have hb := hu.2.1
    have key : ∀ i, i ≤ s.length → ∀ acc : List TCached, acc.length ≤ i → Ev (fun k => cache_Refill.p1 k s rows d (i : Int) c acc) (acc ++ (s.drop i).filterMap (refF rows c.f2 d)) := by
      refine loop_down (P := fun i => ∀ acc : List TCached, acc.length ≤ i → Ev (fun k => cache_Refill.p1 k s rows d (i : Int) c acc) (acc ++ (s.drop i).filterMap (refF rows c.f2 d))) s.length ?_ ?_
      · intro acc _
        refine Ev.succ ?_
        simp only [cache_Refill.p1, decide_eq_true_eq]
        exact Ev.ite_neg (by omega) (Ev.done (by simp))
      · intro i hi ih acc ha
        refine Ev.succ ?_
        simp only [cache_Refill.p1, decide_eq_true_eq, len_pos_iff]
        refine Ev.ite_pos (by omega) (Ev.ite_pos (by omega) (Ev.bind (sel_ev rows c.f2 _ (by have := bagV_len hb; omega) (fun e he => by have := okE_len (bagV_mem hb e he); omega)) ?_))
        rw [wrn hi (by omega), dC hi, List.filterMap_cons]
        by_cases h : selS rows c.f2 (clV (s.getD (i : Int).toNat dCached).f0) = []
        · refine Ev.ite_neg (fun q => q h) ((ih acc (by omega)).to ?_)
          simp only [refF, if_pos h]
        · refine Ev.ite_pos h (Ev.ite_pos (by simp [maxLen]; omega) ((ih _ (by simp; omega)).to ?_))
          simp only [refF, if_neg h]
          simp
    simpa using key 0 (by omega) [] (by simp)
theorem refRefill_ev (c : TCache) (s : List TCached) (rows : List TEntry) (d : Int) (hs : FinC s) (hr : Fin rows) : Ev (fun k => erasureref30_Refill k c s rows d) (refS c s rows d) := by
  unfold erasureref30_Refill refS
  refine Ev.bind (ref30_Valid_ev s hs) ?_
  cases h1 : cacheV s with
  | false => exact Ev.ite_pos rfl (Ev.now _)
  | true =>
    refine Ev.ite_neg (by simp) (Ev.bind (ref06_Valid_ev rows hr) ?_)
    cases hb : bagV rows with
    | false => exact Ev.ite_pos rfl (Ev.now _)
    | true =>
      refine Ev.ite_neg (by simp) ?_
      simp only [ranged_eq, Option.bind_some]
      cases h3 : okD c.f3 && okD d with
      | false => exact Ev.ite_pos rfl (Ev.now _)
      | true =>
        refine Ev.ite_neg (by simp) ?_
        have hl := cacheV_len h1
        have key : ∀ i, i ≤ s.length → ∀ acc : List TCached, acc.length ≤ i → Ev (fun k => erasureref30_Refill.p1 k s rows d (i : Int) c acc) (acc ++ (s.drop i).filterMap (refF rows c.f2 d)) := by
          refine loop_down (P := fun i => ∀ acc : List TCached, acc.length ≤ i → Ev (fun k => erasureref30_Refill.p1 k s rows d (i : Int) c acc) (acc ++ (s.drop i).filterMap (refF rows c.f2 d))) s.length ?_ ?_
          · intro acc _
            refine Ev.succ ?_
            simp only [erasureref30_Refill.p1, decide_eq_true_eq]
            exact Ev.ite_neg (by omega) (Ev.done (by simp))
          · intro i hi ih acc ha
            refine Ev.succ ?_
            simp only [erasureref30_Refill.p1, decide_eq_true_eq, len_pos_iff]
            refine Ev.ite_pos (by omega) (Ev.ite_pos (by omega) (Ev.bind (refSel_ev rows c.f2 _ (by have := bagV_len hb; omega)) ?_))
            rw [wrn hi (by omega), dC hi, List.filterMap_cons]
            by_cases h : selS rows c.f2 (clV (s.getD (i : Int).toNat dCached).f0) = []
            · refine Ev.ite_neg (fun q => q h) ((ih acc (by omega)).to ?_)
              simp only [refF, if_pos h]
            · refine Ev.ite_pos h (Ev.ite_pos (by simp [maxLen]; omega) ((ih _ (by simp; omega)).to ?_))
              simp only [refF, if_neg h]
              simp
        simpa using key 0 (by omega) [] (by simp)
def purS (s : List TCached) (vs : List TValue) : List TCached := if cacheV s then s.filter (fun x => !decide (x.f0 ∈ vs.map clV)) else []
theorem Purge_ev (s : List TCached) (vs : List TValue) (hs : FinC s) (hv : vs.length ≤ 9223372036854775807) : Ev (fun k => cache_Purge k s vs) (purS s vs) := by
  unfold cache_Purge purS
  refine Ev.bind (cache_Valid_ev s hs) ?_
  cases h1 : cacheV s with
  | false => exact Ev.ite_pos rfl (Ev.now _)
  | true =>
    refine Ev.ite_neg (by simp) ?_
    have hl := cacheV_len h1
    have p2 : ∀ m : List (TValue × Bool), (∀ v, getM m v false = decide (v ∈ vs.map clV)) → ∀ i, i ≤ s.length → ∀ acc : List TCached, acc.length ≤ i → Ev (fun k => cache_Purge.p2 k s (i : Int) m acc) (acc ++ (s.drop i).filter (fun x => !decide (x.f0 ∈ vs.map clV))) := by
      intro m hm
      refine loop_down (P := fun i => ∀ acc : List TCached, acc.length ≤ i → Ev (fun k => cache_Purge.p2 k s (i : Int) m acc) (acc ++ (s.drop i).filter (fun x => !decide (x.f0 ∈ vs.map clV)))) s.length ?_ ?_
      · intro acc _
        refine Ev.succ ?_
        simp only [cache_Purge.p2, decide_eq_true_eq]
        exact Ev.ite_neg (by omega) (Ev.done (by simp))
      · intro i hi ih acc ha
        refine Ev.succ ?_
        simp only [cache_Purge.p2, decide_eq_true_eq, hm]
        refine Ev.ite_pos (by omega) (Ev.ite_pos (by omega) ?_)
        rw [wrn hi (by omega), dC hi, List.filter_cons]
        cases h : decide ((s.getD (i : Int).toNat dCached).f0 ∈ vs.map clV) with
        | true => exact Ev.ite_neg (by simp) ((ih acc (by omega)).to (by simp))
        | false => exact Ev.ite_pos rfl (Ev.bind (duplicate_ev _ (cacheV_mem h1 _ (getD_mem _ hi)).2.1) (Ev.ite_pos (by simp [maxLen]; omega) ((ih _ (by simp; omega)).to (by simp))))
    have p1 : ∀ i, i ≤ vs.length → ∀ m : List (TValue × Bool), (∀ v, getM m v false = decide (v ∈ (vs.take i).map clV)) → Ev (fun k => cache_Purge.p1 k s vs (i : Int) m) (s.filter (fun x => !decide (x.f0 ∈ vs.map clV))) := by
      refine loop_down (P := fun i => ∀ m : List (TValue × Bool), (∀ v, getM m v false = decide (v ∈ (vs.take i).map clV)) → Ev (fun k => cache_Purge.p1 k s vs (i : Int) m) (s.filter (fun x => !decide (x.f0 ∈ vs.map clV)))) vs.length ?_ ?_
      · intro m hm
        refine Ev.succ ?_
        simp only [cache_Purge.p1, decide_eq_true_eq]
        rw [List.take_length] at hm
        refine Ev.ite_neg (by omega) ?_
        simpa using p2 m hm 0 (by omega) [] (by simp)
      · intro i hi ih m hm
        refine Ev.succ ?_
        simp only [cache_Purge.p1, decide_eq_true_eq, value_Clean_eq, Option.bind_some]
        refine Ev.ite_pos (by omega) (Ev.ite_pos (by omega) ?_)
        rw [wrn hi (by omega)]
        refine ih _ fun v => ?_
        have htk : vs.take (i + 1) = vs.take i ++ [vs.getD (i : Int).toNat dValue] := by
          rw [List.take_succ_eq_append_getElem hi]; simp [hi]
        rw [htk, List.map_append, List.map_singleton]
        obtain ⟨g1, g2⟩ := get_put (clV (vs.getD (i : Int).toNat dValue)) v true false m
        by_cases hvv : v = clV (vs.getD (i : Int).toNat dValue)
        · rw [g1 hvv]; simp [hvv]
        · rw [g2 hvv, hm]; simp only [List.mem_append, List.mem_singleton, hvv, or_false]
    exact p1 0 (by omega) [] (fun v => by simp [getM_nil])
theorem refPurge_ev (s : List TCached) (vs : List TValue) (hs : FinC s) (hv : vs.length ≤ 9223372036854775807) : Ev (fun k => erasureref30_Purge k s vs) (purS s vs) := by
  unfold erasureref30_Purge purS
  refine Ev.bind (ref30_Valid_ev s hs) ?_
  cases h1 : cacheV s with
  | false => exact Ev.ite_pos rfl (Ev.now _)
  | true =>
    refine Ev.ite_neg (by simp) ?_
    have hl := cacheV_len h1
    have p1 : ∀ i, i ≤ vs.length → ∀ t : List TCached, t.length ≤ 16 → Ev (fun k => erasureref30_Purge.p1 k t vs (i : Int)) (t.filter (fun x => !decide (x.f0 ∈ (vs.drop i).map clV))) := by
      refine loop_down (P := fun i => ∀ t : List TCached, t.length ≤ 16 → Ev (fun k => erasureref30_Purge.p1 k t vs (i : Int)) (t.filter (fun x => !decide (x.f0 ∈ (vs.drop i).map clV)))) vs.length ?_ ?_
      · intro t ht
        refine Ev.succ ?_
        simp only [erasureref30_Purge.p1, decide_eq_true_eq]
        exact Ev.ite_neg (by omega) (Ev.done (by rw [List.drop_length]; symm; apply List.filter_eq_self.2; intro x _; rfl))
      · intro i hi ih t ht
        refine Ev.succ ?_
        simp only [erasureref30_Purge.p1, decide_eq_true_eq, ref01_Clean_eq, Option.bind_some]
        refine Ev.ite_pos (by omega) (Ev.ite_pos (by omega) (Ev.bind (without_ev t _ (by omega)) ?_))
        rw [wrn hi (by omega), dV hi]
        refine (ih _ (Nat.le_trans (List.length_filter_le _ _) ht)).to ?_
        rw [List.filter_filter]
        congr 1
        funext x
        rw [Bool.eq_iff_iff]
        simp [and_comm]
    simpa using p1 0 (by omega) s hl
theorem C_ext {x y : TCached} (h0 : x.f0 = y.f0) (h1 : x.f1 = y.f1) (h2 : x.f2 = y.f2) : x = y := by cases x; cases y; simp_all
instance : DecidableEq TCached := fun x y => decidable_of_iff (x.f0 = y.f0 ∧ x.f1 = y.f1 ∧ x.f2 = y.f2) ⟨fun h => C_ext h.1 h.2.1 h.2.2, fun h => by subst h; exact ⟨rfl, rfl, rfl⟩⟩
theorem Equal_ev (a b : List TValue) (ha : a.length ≤ 9223372036854775807) : Ev (fun k => slices_Equal_api_Value k a b) (decide (a = b)) := by
  unfold slices_Equal_api_Value
  simp only [bne_iff_ne]
  by_cases hl : a.length = b.length
  · refine Ev.ite_neg (fun h => h (by omega)) ?_
    have key : ∀ i, i ≤ a.length → Ev (fun k => slices_Equal_api_Value.p1 k a b (a.length : Int) (i : Int)) (decide (a.drop i = b.drop i)) := by
      refine loop_down (P := fun i => Ev (fun k => slices_Equal_api_Value.p1 k a b (a.length : Int) (i : Int)) (decide (a.drop i = b.drop i))) a.length ?_ ?_
      · refine Ev.succ ?_
        simp only [slices_Equal_api_Value.p1, decide_eq_true_eq]
        exact Ev.ite_neg (by omega) (Ev.done (by rw [hl, List.drop_length, ← hl, List.drop_length]; simp))
      · intro i hi ih
        refine Ev.succ ?_
        simp only [slices_Equal_api_Value.p1, decide_eq_true_eq, eqV_iff]
        refine Ev.ite_pos (by omega) (Ev.ite_pos (by omega) (Ev.ite_pos (by omega) ?_))
        rw [wrn hi (by omega), dV hi, dV (show i < b.length by omega)]
        by_cases h : a.getD (i : Int).toNat dValue = b.getD (i : Int).toNat dValue
        · rw [decide_eq_true h]; exact Ev.ite_neg (by simp) (ih.to (by rw [h]; simp))
        · rw [decide_eq_false h]; exact Ev.ite_pos rfl (Ev.done (by rw [decide_eq_false]; intro e; exact h (List.cons.inj e).1))
    simpa using key 0 (by omega)
  · refine Ev.ite_pos (fun h => hl (by omega)) (Ev.done ?_)
    rw [decide_eq_false]; intro e; exact hl (by rw [e])
theorem same_ev (a b : List TEntry) (ha : Fin a) : Ev (fun k => cache_same k a b) (decide (a = b)) := by
  unfold cache_same
  simp only [bne_iff_ne]
  have hla := ha.1
  by_cases hl : a.length = b.length
  · refine Ev.ite_neg (fun h => h (by omega)) ?_
    have key : ∀ i, i ≤ a.length → Ev (fun k => cache_same.p1 k a b (i : Int)) (decide (a.drop i = b.drop i)) := by
      refine loop_down (P := fun i => Ev (fun k => cache_same.p1 k a b (i : Int)) (decide (a.drop i = b.drop i))) a.length ?_ ?_
      · refine Ev.succ ?_
        simp only [cache_same.p1, decide_eq_true_eq]
        exact Ev.ite_neg (by omega) (Ev.done (by rw [hl, List.drop_length, ← hl, List.drop_length]; simp))
      · intro i hi ih
        refine Ev.succ ?_
        simp only [cache_same.p1, decide_eq_true_eq, bne_iff_ne]
        refine Ev.ite_pos (by omega) (Ev.ite_pos (by omega) (Ev.ite_pos (by omega) ?_))
        rw [wrn hi (by omega), dE hi, dE (show i < b.length by omega)]
        by_cases h1 : (a.getD (i : Int).toNat dEntry).f1 = (b.getD (i : Int).toNat dEntry).f1
        · refine Ev.ite_neg (fun h => h h1) (Ev.bind (Equal_ev _ _ (ha.at hi)) ?_)
          by_cases h0 : (a.getD (i : Int).toNat dEntry).f0 = (b.getD (i : Int).toNat dEntry).f0
          · rw [decide_eq_true h0]; exact Ev.ite_neg (by simp) (ih.to (by rw [E_ext h0 h1]; simp))
          · rw [decide_eq_false h0]; exact Ev.ite_pos rfl (Ev.done (by rw [decide_eq_false]; intro e; exact h0 (by rw [(List.cons.inj e).1])))
        · exact Ev.ite_pos h1 (Ev.done (by rw [decide_eq_false]; intro e; exact h1 (by rw [(List.cons.inj e).1])))
    simpa using key 0 (by omega)
  · refine Ev.ite_pos (fun h => hl (by omega)) (Ev.done ?_)
    rw [decide_eq_false]; intro e; exact hl (by rw [e])
def freS (c : TCache) (s : List TCached) (rows : List TEntry) : Bool := cacheV s && (bagV rows && s.all fun x => decide (x.f1 = selS rows c.f2 (clV x.f0)))
theorem Fresh_ev (c : TCache) (s : List TCached) (rows : List TEntry) (hs : FinC s) (hr : Fin rows) : Ev (fun k => cache_Fresh k c s rows) (freS c s rows) := by
  unfold cache_Fresh freS
  refine Ev.bind (cache_Valid_ev s hs) ?_
  cases h1 : cacheV s with
  | false => exact Ev.ite_pos rfl (Ev.now _)
  | true =>
    refine Ev.ite_neg (by simp) (Ev.bind (bag_Valid_ev rows hr) ?_)
    cases hb : bagV rows with
    | false => exact Ev.ite_pos rfl (Ev.now _)
    | true =>
      refine Ev.ite_neg (by simp) ?_
      have hl := cacheV_len h1
      have key : ∀ i, i ≤ s.length → Ev (fun k => cache_Fresh.p1 k s rows (i : Int) c) ((s.drop i).all fun x => decide (x.f1 = selS rows c.f2 (clV x.f0))) := by
        refine loop_down (P := fun i => Ev (fun k => cache_Fresh.p1 k s rows (i : Int) c) ((s.drop i).all fun x => decide (x.f1 = selS rows c.f2 (clV x.f0)))) s.length ?_ ?_
        · refine Ev.succ ?_
          simp only [cache_Fresh.p1, decide_eq_true_eq]
          exact Ev.ite_neg (by omega) (Ev.done (by simp))
        · intro i hi ih
          refine Ev.succ ?_
          simp only [cache_Fresh.p1, decide_eq_true_eq]
          refine Ev.ite_pos (by omega) (Ev.ite_pos (by omega) (Ev.bind (sel_ev rows c.f2 _ (by have := bagV_len hb; omega) (fun e he => by have := okE_len (bagV_mem hb e he); omega)) (Ev.bind (same_ev _ _ (hs.2 _ (getD_mem _ hi))) ?_)))
          rw [wrn hi (by omega), dC hi, List.all_cons]
          cases h : decide ((s.getD (i : Int).toNat dCached).f1 = selS rows c.f2 (clV (s.getD (i : Int).toNat dCached).f0)) with
          | false => exact Ev.ite_pos rfl (Ev.now _)
          | true => exact Ev.ite_neg (by simp) (ih.to (by simp))
      simpa using key 0 (by omega)
theorem refFresh_ev (c : TCache) (s : List TCached) (rows : List TEntry) (hs : FinC s) (hr : Fin rows) : Ev (fun k => erasureref30_Fresh k c s rows) (freS c s rows) := by
  unfold erasureref30_Fresh freS
  refine Ev.bind (ref30_Valid_ev s hs) ?_
  cases h1 : cacheV s with
  | false => exact Ev.ite_pos rfl (Ev.now _)
  | true =>
    refine Ev.ite_neg (by simp) (Ev.bind (ref06_Valid_ev rows hr) ?_)
    cases hb : bagV rows with
    | false => exact Ev.ite_pos rfl (Ev.now _)
    | true =>
      refine Ev.ite_neg (by simp) ?_
      have hl := cacheV_len h1
      have key : ∀ i, i ≤ s.length → Ev (fun k => erasureref30_Fresh.p1 k s rows (i : Int) c) ((s.drop i).all fun x => decide (x.f1 = selS rows c.f2 (clV x.f0))) := by
        refine loop_down (P := fun i => Ev (fun k => erasureref30_Fresh.p1 k s rows (i : Int) c) ((s.drop i).all fun x => decide (x.f1 = selS rows c.f2 (clV x.f0)))) s.length ?_ ?_
        · refine Ev.succ ?_
          simp only [erasureref30_Fresh.p1, decide_eq_true_eq]
          exact Ev.ite_neg (by omega) (Ev.done (by simp))
        · intro i hi ih
          refine Ev.succ ?_
          simp only [erasureref30_Fresh.p1, decide_eq_true_eq]
          refine Ev.ite_pos (by omega) (Ev.ite_pos (by omega) (Ev.bind (refSel_ev rows c.f2 _ (by have := bagV_len hb; omega)) (Ev.bind (ref26_SameBag_ev _ _ (hs.2 _ (getD_mem _ hi))) ?_)))
          rw [wrn hi (by omega), dC hi, List.all_cons]
          cases h : decide ((s.getD (i : Int).toNat dCached).f1 = selS rows c.f2 (clV (s.getD (i : Int).toNat dCached).f0)) with
          | false => exact Ev.ite_pos rfl (Ev.now _)
          | true => exact Ev.ite_neg (by simp) (ih.to (by simp))
      simpa using key 0 (by omega)
theorem refSame_ev (a b : List TCached) (ha : FinC a) : Ev (fun k => erasureref30_Same k a b) (decide (a = b)) := by
  unfold erasureref30_Same
  simp only [bne_iff_ne]
  have hla := ha.1
  by_cases hl : a.length = b.length
  · refine Ev.ite_neg (fun h => h (by omega)) ?_
    have key : ∀ i, i ≤ a.length → Ev (fun k => erasureref30_Same.p1 k a b (i : Int)) (decide (a.drop i = b.drop i)) := by
      refine loop_down (P := fun i => Ev (fun k => erasureref30_Same.p1 k a b (i : Int)) (decide (a.drop i = b.drop i))) a.length ?_ ?_
      · refine Ev.succ ?_
        simp only [erasureref30_Same.p1, decide_eq_true_eq]
        exact Ev.ite_neg (by omega) (Ev.done (by rw [hl, List.drop_length, ← hl, List.drop_length]; simp))
      · intro i hi ih
        refine Ev.succ ?_
        simp only [erasureref30_Same.p1, decide_eq_true_eq, bne_iff_ne, eqV_iff]
        refine Ev.ite_pos (by omega) (Ev.ite_pos (by omega) (Ev.ite_pos (by omega) ?_))
        rw [wrn hi (by omega), dC hi, dC (show i < b.length by omega)]
        by_cases h0 : (a.getD (i : Int).toNat dCached).f0 = (b.getD (i : Int).toNat dCached).f0
        · rw [decide_eq_true h0]
          refine Ev.ite_neg (by simp) ?_
          by_cases h2 : (a.getD (i : Int).toNat dCached).f2 = (b.getD (i : Int).toNat dCached).f2
          · refine Ev.ite_neg (fun h => h h2) (Ev.bind (ref26_SameBag_ev _ _ (ha.2 _ (getD_mem _ hi))) ?_)
            by_cases h1 : (a.getD (i : Int).toNat dCached).f1 = (b.getD (i : Int).toNat dCached).f1
            · rw [decide_eq_true h1]; exact Ev.ite_neg (by simp) (ih.to (by rw [C_ext h0 h1 h2]; simp))
            · rw [decide_eq_false h1]; exact Ev.ite_pos rfl (Ev.done (by rw [decide_eq_false]; intro e; exact h1 (by rw [(List.cons.inj e).1])))
          · exact Ev.ite_pos h2 (Ev.done (by rw [decide_eq_false]; intro e; exact h2 (by rw [(List.cons.inj e).1])))
        · rw [decide_eq_false h0]; exact Ev.ite_pos rfl (Ev.done (by rw [decide_eq_false]; intro e; exact h0 (by rw [(List.cons.inj e).1])))
    simpa using key 0 (by omega)
  · refine Ev.ite_pos (fun h => hl (by omega)) (Ev.done ?_)
    rw [decide_eq_false]; intro e; exact hl (by rw [e])
end Go.Proofs.YtjhnpaenhdbhpabV
set_option linter.unusedVariables false
set_option linter.unusedSimpArgs false
namespace Go.Proofs.YtjhnpaenhdbhpabV
open Go Go.RowKit
theorem cmpV_zero_cl {a b : TValue} : cmpV a b = 0 ↔ clV a = clV b := cmpC_zero (okV_cl a) (okV_cl b)
theorem cmpV_congr {a a' b b' : TValue} (ha : clV a = clV a') (hb : clV b = clV b') : cmpV a b = cmpV a' b' := by unfold cmpV; rw [ha, hb]
theorem okRow_len {l : List TValue} (h : okRow l = true) : l.length ≤ 16 := by
  unfold okRow at h
  simp only [Bool.and_eq_true, decide_eq_true_eq] at h
  exact h.2
theorem cmpR_trans : ∀ {a b c : List TValue}, cmpR a b < 0 → cmpR b c < 0 → cmpR a c < 0
  | [], [], c, h, _ => by simp [cmpR] at h
  | [], _ :: _, [], _, h => by simp [cmpR] at h
  | [], _ :: _, _ :: _, _, _ => by simp [cmpR]
  | _ :: _, [], _, h, _ => by simp [cmpR] at h
  | _ :: _, _ :: _, [], _, h => by simp [cmpR] at h
  | x :: a, y :: b, z :: c, h1, h2 => by
    unfold cmpR at h1 h2 ⊢
    by_cases e1 : cmpV x y = 0
    · rw [if_pos e1] at h1
      have q := cmpV_congr (b := z) (cmpV_zero_cl.1 e1) rfl
      by_cases e2 : cmpV y z = 0
      · rw [if_pos e2] at h2
        rw [if_pos (by omega)]
        exact cmpR_trans h1 h2
      · rw [if_neg e2] at h2
        rw [if_neg (by omega)]; omega
    · rw [if_neg e1] at h1
      by_cases e2 : cmpV y z = 0
      · rw [if_pos e2] at h2
        have q := cmpV_congr (a := x) rfl (cmpV_zero_cl.1 e2)
        rw [if_neg (by omega)]; omega
      · rw [if_neg e2] at h2
        have := cmpV_trans h1 h2
        rw [if_neg (by omega)]; exact this
def OrdE (l : List TEntry) : Prop := l.Pairwise fun x y => cmpR x.f0 y.f0 < 0
theorem bvF_ord : ∀ (l : List TEntry) (p : Option TEntry), bvF p l = true ↔ (∀ e ∈ l, okE e = true ∧ e.f1 ≠ 0) ∧ OrdE l ∧ ∀ q, p = some q → ∀ x ∈ l, cmpR q.f0 x.f0 < 0
  | [], p => by
    constructor
    · intro _; exact ⟨fun e he => (by cases he), List.Pairwise.nil, fun _ _ x hx => (by cases hx)⟩
    · intro _; cases p <;> rfl
  | y :: l, p => by
    have h1 : bvF p (y :: l) = true ↔ (okE y = true ∧ y.f1 ≠ 0) ∧ (∀ q, p = some q → cmpR q.f0 y.f0 < 0) ∧ bvF (some y) l = true := by
      cases p with
      | none => simp [bvF]
      | some p =>
        simp only [bvF, Bool.and_eq_true, decide_eq_true_eq, Bool.not_eq_true', decide_eq_false_iff_not, Option.some.injEq, forall_eq']
        exact ⟨fun h => ⟨h.1.1, h.1.2, h.2⟩, fun h => ⟨⟨h.1, h.2.1⟩, h.2.2⟩⟩
    rw [h1, bvF_ord l (some y)]
    constructor
    · rintro ⟨h2, h3, h4, h5, h6⟩
      refine ⟨fun e he => ?_, List.Pairwise.cons (fun x hx => h6 y rfl x hx) h5, fun q hq x hx => ?_⟩
      · rcases List.mem_cons.1 he with rfl | he
        · exact h2
        · exact h4 e he
      · rcases List.mem_cons.1 hx with rfl | hx
        · exact h3 q hq
        · exact cmpR_trans (h3 q hq) (h6 y rfl x hx)
    · rintro ⟨h2, h3, h4⟩
      have h5 := List.pairwise_cons.1 h3
      exact ⟨h2 y (List.mem_cons_self ..), fun q hq => h4 q hq y (List.mem_cons_self ..), fun e he => h2 e (List.mem_cons_of_mem _ he), h5.2, fun q hq x hx => by cases hq; exact h5.1 x hx⟩
theorem bagV_iff {l : List TEntry} : bagV l = true ↔ (∀ e ∈ l, okE e = true ∧ e.f1 ≠ 0) ∧ OrdE l ∧ l.length ≤ 4096 := by
  unfold bagV
  rw [Bool.and_eq_true, decide_eq_true_eq, bvF_ord]
  exact ⟨fun h => ⟨h.1.1, h.1.2.1, h.2⟩, fun h => ⟨⟨h.1, h.2.1, fun q hq => by cases hq⟩, h.2.2⟩⟩
theorem bagV_filter {l : List TEntry} (p : TEntry → Bool) (h : bagV l = true) : bagV (l.filter p) = true := by
  rw [bagV_iff] at h ⊢
  exact ⟨fun e he => h.1 e (List.mem_filter.1 he).1, h.2.1.filter _, Nat.le_trans (List.length_filter_le _ _) h.2.2⟩
theorem okE_rng {e : TEntry} (h : okE e = true) : okRow e.f0 = true ∧ -262144 ≤ e.f1 ∧ e.f1 ≤ 262144 := by
  unfold okE at h
  rw [Bool.and_eq_true, decide_eq_true_eq] at h
  exact h
theorem bagV_fin {l : List TEntry} (h : bagV l = true) : Fin l := by
  rw [bagV_iff] at h
  exact ⟨by omega, fun e he => by have := okRow_len (okE_rng (h.1 e he).1).1; omega⟩
end Go.Proofs.YtjhnpaenhdbhpabV
set_option linter.unusedVariables false
set_option linter.unusedSimpArgs false
set_option maxRecDepth 100000
namespace Go.Proofs.YtjhnpaenhdbhpabV
open Go Go.RowKit
noncomputable def erasurelaw30_CacheBounds.p3  : Nat → Int → Int → (List TCached) → (List TCached) → Option Bool
  | 0, _, _, _, _ => none
  | k + 1, old13, i18, s6, t15 => if (decide (i18 < ((t15).length : Int))) = true then (if 0 ≤ i18 ∧ i18 < ((t15).length : Int) then (if 0 ≤ old13 ∧ old13 < ((s6).length : Int) then (if (((t15.getD i18.toNat dCached).f0.f0 == (s6.getD old13.toNat dCached).f0.f0) && (((t15.getD i18.toNat dCached).f0.f1 == (s6.getD old13.toNat dCached).f0.f1) && ((((t15.getD i18.toNat dCached).f0.f2).data.toList == ((s6.getD old13.toNat dCached).f0.f2).data.toList) && true))) = true then (some false) else (erasurelaw30_CacheBounds.p3 k old13 (IntKind.i64.wrap (i18 + 1)) s6 t15)) else none) else none) else ((erasurelaw30_awake k ).bind fun y_29 => (some y_29))
noncomputable def erasurelaw30_CacheBounds.p2  : Nat → Int → Int → Int → TCache → (List TCached) → Option Bool
  | 0, _, _, _, _, _ => none
  | k + 1, n0, old13, i14, c5b, s6 => if (decide (i14 < ((s6).length : Int))) = true then (if 0 ≤ i14 ∧ i14 < ((s6).length : Int) then (if 0 ≤ old13 ∧ old13 < ((s6).length : Int) then (if (decide ((s6.getD i14.toNat dCached).f2 < (s6.getD old13.toNat dCached).f2)) = true then (erasurelaw30_CacheBounds.p2 k n0 i14 (IntKind.i64.wrap (i14 + 1)) c5b s6) else (erasurelaw30_CacheBounds.p2 k n0 old13 (IntKind.i64.wrap (i14 + 1)) c5b s6)) else none) else none) else ((erasureref01_Int k (IntKind.i64.wrap (100 + (Go.bits .and .i64 n0 7)))).bind fun y_19 => ((cache_Lookup k c5b s6 ([] : List TEntry) y_19 41).bind fun y_21 => (if (y_21.2.2 != 0) = true then (some false) else (if (((y_21.1).length : Int) != 16) = true then (some false) else (erasurelaw30_CacheBounds.p3 k old13 0 s6 y_21.1)))))
noncomputable def erasurelaw30_CacheBounds.p1  : Nat → Int → (List Int) → Int → Int → TCache → (List TCached) → Option Bool
  | 0, _, _, _, _, _, _ => none
  | k + 1, n0, order1, last7, i8, c5b, s6 => if (decide (i8 < 16)) = true then (if (decide (i8 < ((order1).length : Int))) = true then (if 0 ≤ i8 ∧ i8 < ((order1).length : Int) then ((erasureref01_Int k i8).bind fun y_4 => ((cache_Lookup k c5b s6 ([] : List TEntry) y_4 (if last7 > (IntKind.i64.wrap ((IntKind.u64.wrap (order1.getD i8.toNat (0 : Int))).tmod 40)) then last7 else (IntKind.i64.wrap ((IntKind.u64.wrap (order1.getD i8.toNat (0 : Int))).tmod 40)))).bind fun y_6 => (if (y_6.2.2 != 0) = true then (some false) else (erasurelaw30_CacheBounds.p1 k n0 order1 (if last7 > (IntKind.i64.wrap ((IntKind.u64.wrap (order1.getD i8.toNat (0 : Int))).tmod 40)) then last7 else (IntKind.i64.wrap ((IntKind.u64.wrap (order1.getD i8.toNat (0 : Int))).tmod 40))) (IntKind.i64.wrap (i8 + 1)) c5b y_6.1)))) else none) else ((erasureref01_Int k i8).bind fun y_9 => ((cache_Lookup k c5b s6 ([] : List TEntry) y_9 (if last7 > i8 then last7 else i8)).bind fun y_11 => (if (y_11.2.2 != 0) = true then (some false) else (erasurelaw30_CacheBounds.p1 k n0 order1 (if last7 > i8 then last7 else i8) (IntKind.i64.wrap (i8 + 1)) c5b y_11.1))))) else (if (((s6).length : Int) != 16) = true then (some false) else (erasurelaw30_CacheBounds.p2 k n0 0 1 c5b s6))
noncomputable def erasurelaw30_CacheBounds  (k : Nat) (n0 : Int) (order1 : (List Int)) : Option Bool := erasurelaw30_CacheBounds.p1 k n0 order1 0 0 (TCache.mk (⟨#[]⟩ : ByteArray) (⟨#[]⟩ : ByteArray) 0 1000) ([] : List TCached)
noncomputable def erasurelaw30_CacheBounds.t : List Item := [.code (bodyOf Try.f5)]
noncomputable def erasurelaw30_CacheBounds.s (n0 : Int) (order1 : (List Int)) : St := ⟨frOf Try.f5.ntmps 0 [(0, .p (.int .i64 n0)), (1, .p (eL 1 (cI .i64) (0 : Int) order1))], []⟩
noncomputable def erasurelaw30_CacheBounds.p1.t : List Item := nav 13 [] erasurelaw30_CacheBounds.t
noncomputable def erasurelaw30_CacheBounds.p1.s (n0 : Int) (order1 : (List Int)) (last7 : Int) (i8 : Int) (c5b : TCache) (s6 : (List TCached)) : St := ⟨frOf Try.f5.ntmps 0 [(0, .p (.int .i64 n0)), (1, .p (eL 1 (cI .i64) (0 : Int) order1)), (5, .ptr 0 0 0), (6, .sref 1 46 5 (s6).length), (7, .p (.int .i64 last7)), (8, .p (.int .i64 i8))], [.box ((cCache c5b).map .p), (oL true 46 5 cCached dCached s6)]⟩
noncomputable def erasurelaw30_CacheBounds.p2.t : List Item := nav 17 [false, false] erasurelaw30_CacheBounds.p1.t
noncomputable def erasurelaw30_CacheBounds.p2.s (n0 : Int) (old13 : Int) (i14 : Int) (c5b : TCache) (s6 : (List TCached)) : St := ⟨frOf Try.f5.ntmps 0 [(0, .p (.int .i64 n0)), (5, .ptr 0 0 0), (6, .sref 1 46 5 (s6).length), (13, .p (.int .i64 old13)), (14, .p (.int .i64 i14))], [.box ((cCache c5b).map .p), (oL true 46 5 cCached dCached s6)]⟩
noncomputable def erasurelaw30_CacheBounds.p3.t : List Item := nav 17 [false, false] erasurelaw30_CacheBounds.p2.t
noncomputable def erasurelaw30_CacheBounds.p3.s (old13 : Int) (i18 : Int) (s6 : (List TCached)) (t15 : (List TCached)) : St := ⟨frOf Try.f5.ntmps 0 [(6, .sref 0 46 5 (s6).length), (13, .p (.int .i64 old13)), (15, .sref 1 46 5 (t15).length), (18, .p (.int .i64 i18))], [(oL false 46 5 cCached dCached s6), (oL true 46 5 cCached dCached t15)]⟩
theorem erasurelaw30_CacheBounds.p3.run   : ∀ (k : Nat) (old13 : Int) (i18 : Int) (s6 : (List TCached)) (t15 : (List TCached)) (r : Bool), erasurelaw30_CacheBounds.p3 k old13 i18 s6 t15 = some r → RunC Try.prog Try.f5 erasurelaw30_CacheBounds.p3.t (erasurelaw30_CacheBounds.p3.s old13 i18 s6 t15) (.p (.bool r)) [] := by
  intro k
  induction k with
  | zero => intro old13 i18 s6 t15 r h; simp [erasurelaw30_CacheBounds.p3] at h
  | succ k ih =>
    intro old13 i18 s6 t15 r h
    rw [erasurelaw30_CacheBounds.p3] at h
    rcases ite_or h with ⟨g_25, h⟩ | ⟨g_25, h⟩
    · obtain ⟨g_26, h⟩ := ite_some h
      obtain ⟨g_27, h⟩ := ite_some h
      rcases ite_or h with ⟨g_28, h⟩ | ⟨g_28, h⟩
      · obtain rfl := Option.some.inj h
        exact RunC.out [.n 2, .r [(3, .dec true)], .n 5, .r [(10, .dec true)], .n 3] (by kernel_rfl) (Obs.of (by kernel_rfl) (And.intro g_25 (And.intro g_26 (And.intro g_27 g_28))))
      · exact RunC.go [.n 2, .r [(3, .dec true)], .n 5, .r [(10, .dec false)], .n 5, .k [6, 13, 15, 18]] (by kernel_rfl) (Obs.of (by kernel_rfl) (And.intro g_25 (And.intro g_26 (And.intro g_27 (nt g_28))))) (ih _ _ _ _ r h)
    · obtain ⟨y_29, e_30, h⟩ := bind_or h
      obtain rfl := Option.some.inj h
      exact RunC.out [.n 2, .r [(3, .dec false)], .n 3, .r [(0, .call (.p (.bool y_29)) [])]] (by kernel_rfl) (Obs.of (by kernel_rfl) (And.intro (nt g_25) (erasurelaw30_awake.spec e_30)))
theorem erasurelaw30_CacheBounds.p2.run   : ∀ (k : Nat) (n0 : Int) (old13 : Int) (i14 : Int) (c5b : TCache) (s6 : (List TCached)) (r : Bool), erasurelaw30_CacheBounds.p2 k n0 old13 i14 c5b s6 = some r → RunC Try.prog Try.f5 erasurelaw30_CacheBounds.p2.t (erasurelaw30_CacheBounds.p2.s n0 old13 i14 c5b s6) (.p (.bool r)) [] := by
  intro k
  induction k with
  | zero => intro n0 old13 i14 c5b s6 r h; simp [erasurelaw30_CacheBounds.p2] at h
  | succ k ih =>
    intro n0 old13 i14 c5b s6 r h
    rw [erasurelaw30_CacheBounds.p2] at h
    rcases ite_or h with ⟨g_15, h⟩ | ⟨g_15, h⟩
    · obtain ⟨g_16, h⟩ := ite_some h
      obtain ⟨g_17, h⟩ := ite_some h
      rcases ite_or h with ⟨g_18, h⟩ | ⟨g_18, h⟩
      · exact RunC.go [.n 2, .r [(3, .dec true)], .n 5, .r [(10, .dec true)], .n 5, .k [0, 5, 6, 13, 14]] (by kernel_rfl) (Obs.of (by kernel_rfl) (And.intro g_15 (And.intro g_16 (And.intro g_17 g_18)))) (ih _ _ _ _ _ r h)
      · exact RunC.go [.n 2, .r [(3, .dec true)], .n 5, .r [(10, .dec false)], .n 5, .k [0, 5, 6, 13, 14]] (by kernel_rfl) (Obs.of (by kernel_rfl) (And.intro g_15 (And.intro g_16 (And.intro g_17 (nt g_18))))) (ih _ _ _ _ _ r h)
    · obtain ⟨y_19, e_20, h⟩ := bind_or h
      obtain ⟨y_21, e_22, h⟩ := bind_or h
      rcases ite_or h with ⟨g_23, h⟩ | ⟨g_23, h⟩
      · obtain rfl := Option.some.inj h
        exact RunC.out [.n 2, .r [(3, .dec false)], .n 3, .r [(5, .call (.agg ((cValue y_19).map .p)) []), (6, .callL [.agg ((cCache c5b).map .p), .p (eL 5 cCached dCached s6), .p (eL 2 cEntry dEntry ([] : List TEntry)), .agg ((cValue y_19).map .p), .p (.int .i64 41)] (.tup [.sref 0 46 5 (y_21.1).length, .sref 1 36 2 (y_21.2.1).length, .p (.int .i64 y_21.2.2)]) [(oL true 46 5 cCached dCached y_21.1), (oL true 36 2 cEntry dEntry y_21.2.1)])], .n 2, .r [(2, .dec true)], .n 3] (by kernel_rfl) (Obs.of (by kernel_rfl) (And.intro (nt g_15) (And.intro (erasureref01_Int.spec e_20) (And.intro (And.intro (fls_cons (fle_rfl (.agg ((cCache c5b).map .p))) (fls_cons (fle_rfl (.p (eL 5 cCached dCached s6))) (fls_cons (fle_nil 2 cEntry dEntry) (fls_cons (fle_rfl (.agg ((cValue y_19).map .p))) (fls_cons (fle_rfl (.p (.int .i64 41))) fls_nil))))) (cache_Lookup.spec e_22)) g_23))))
      · rcases ite_or h with ⟨g_24, h⟩ | ⟨g_24, h⟩
        · obtain rfl := Option.some.inj h
          exact RunC.out [.n 2, .r [(3, .dec false)], .n 3, .r [(5, .call (.agg ((cValue y_19).map .p)) []), (6, .callL [.agg ((cCache c5b).map .p), .p (eL 5 cCached dCached s6), .p (eL 2 cEntry dEntry ([] : List TEntry)), .agg ((cValue y_19).map .p), .p (.int .i64 41)] (.tup [.sref 0 46 5 (y_21.1).length, .sref 1 36 2 (y_21.2.1).length, .p (.int .i64 y_21.2.2)]) [(oL true 46 5 cCached dCached y_21.1), (oL true 36 2 cEntry dEntry y_21.2.1)])], .n 2, .r [(2, .dec false), (6, .dec true)], .n 3] (by kernel_rfl) (Obs.of (by kernel_rfl) (And.intro (nt g_15) (And.intro (erasureref01_Int.spec e_20) (And.intro (And.intro (fls_cons (fle_rfl (.agg ((cCache c5b).map .p))) (fls_cons (fle_rfl (.p (eL 5 cCached dCached s6))) (fls_cons (fle_nil 2 cEntry dEntry) (fls_cons (fle_rfl (.agg ((cValue y_19).map .p))) (fls_cons (fle_rfl (.p (.int .i64 41))) fls_nil))))) (cache_Lookup.spec e_22)) (And.intro (nt g_23) g_24)))))
        · exact RunC.go [.n 2, .r [(3, .dec false)], .n 3, .r [(5, .call (.agg ((cValue y_19).map .p)) []), (6, .callL [.agg ((cCache c5b).map .p), .p (eL 5 cCached dCached s6), .p (eL 2 cEntry dEntry ([] : List TEntry)), .agg ((cValue y_19).map .p), .p (.int .i64 41)] (.tup [.sref 0 46 5 (y_21.1).length, .sref 1 36 2 (y_21.2.1).length, .p (.int .i64 y_21.2.2)]) [(oL true 46 5 cCached dCached y_21.1), (oL true 36 2 cEntry dEntry y_21.2.1)])], .n 2, .r [(2, .dec false), (6, .dec false)], .n 7, .k [6, 13, 15, 18]] (by kernel_rfl) (Obs.of (by kernel_rfl) (And.intro (nt g_15) (And.intro (erasureref01_Int.spec e_20) (And.intro (And.intro (fls_cons (fle_rfl (.agg ((cCache c5b).map .p))) (fls_cons (fle_rfl (.p (eL 5 cCached dCached s6))) (fls_cons (fle_nil 2 cEntry dEntry) (fls_cons (fle_rfl (.agg ((cValue y_19).map .p))) (fls_cons (fle_rfl (.p (.int .i64 41))) fls_nil))))) (cache_Lookup.spec e_22)) (And.intro (nt g_23) (nt g_24)))))) (erasurelaw30_CacheBounds.p3.run k _ _ _ _ r h)
theorem erasurelaw30_CacheBounds.p1.run   : ∀ (k : Nat) (n0 : Int) (order1 : (List Int)) (last7 : Int) (i8 : Int) (c5b : TCache) (s6 : (List TCached)) (r : Bool), erasurelaw30_CacheBounds.p1 k n0 order1 last7 i8 c5b s6 = some r → RunC Try.prog Try.f5 erasurelaw30_CacheBounds.p1.t (erasurelaw30_CacheBounds.p1.s n0 order1 last7 i8 c5b s6) (.p (.bool r)) [] := by
  intro k
  induction k with
  | zero => intro n0 order1 last7 i8 c5b s6 r h; simp [erasurelaw30_CacheBounds.p1] at h
  | succ k ih =>
    intro n0 order1 last7 i8 c5b s6 r h
    rw [erasurelaw30_CacheBounds.p1] at h
    rcases ite_or h with ⟨g_1, h⟩ | ⟨g_1, h⟩
    · rcases ite_or h with ⟨g_2, h⟩ | ⟨g_2, h⟩
      · obtain ⟨g_3, h⟩ := ite_some h
        obtain ⟨y_4, e_5, h⟩ := bind_or h
        obtain ⟨y_6, e_7, h⟩ := bind_or h
        rcases ite_or h with ⟨g_8, h⟩ | ⟨g_8, h⟩
        · obtain rfl := Option.some.inj h
          exact RunC.out [.n 2, .r [(1, .dec true)], .n 8, .r [(3, .dec true)], .n 7, .r [(3, .call (.agg ((cValue y_4).map .p)) []), (5, .callL [.agg ((cCache c5b).map .p), .p (eL 5 cCached dCached s6), .p (eL 2 cEntry dEntry ([] : List TEntry)), .agg ((cValue y_4).map .p), .p (.int .i64 (if last7 > (IntKind.i64.wrap ((IntKind.u64.wrap (order1.getD i8.toNat (0 : Int))).tmod 40)) then last7 else (IntKind.i64.wrap ((IntKind.u64.wrap (order1.getD i8.toNat (0 : Int))).tmod 40))))] (.tup [.sref 0 46 5 (y_6.1).length, .sref 1 36 2 (y_6.2.1).length, .p (.int .i64 y_6.2.2)]) [(oL true 46 5 cCached dCached y_6.1), (oL true 36 2 cEntry dEntry y_6.2.1)])], .n 2, .r [(1, .dec true)], .n 3] (by kernel_rfl) (Obs.of (by kernel_rfl) (And.intro g_1 (And.intro g_2 (And.intro g_3 (And.intro (show (40 : Int) ≠ 0 from (by decide)) (And.intro (erasureref01_Int.spec e_5) (And.intro (And.intro (fls_cons (fle_rfl (.agg ((cCache c5b).map .p))) (fls_cons (fle_rfl (.p (eL 5 cCached dCached s6))) (fls_cons (fle_nil 2 cEntry dEntry) (fls_cons (fle_rfl (.agg ((cValue y_4).map .p))) (fls_cons (fle_rfl (.p (.int .i64 (if last7 > (IntKind.i64.wrap ((IntKind.u64.wrap (order1.getD i8.toNat (0 : Int))).tmod 40)) then last7 else (IntKind.i64.wrap ((IntKind.u64.wrap (order1.getD i8.toNat (0 : Int))).tmod 40)))))) fls_nil))))) (cache_Lookup.spec e_7)) g_8)))))))
        · exact RunC.go [.n 2, .r [(1, .dec true)], .n 8, .r [(3, .dec true)], .n 7, .r [(3, .call (.agg ((cValue y_4).map .p)) []), (5, .callL [.agg ((cCache c5b).map .p), .p (eL 5 cCached dCached s6), .p (eL 2 cEntry dEntry ([] : List TEntry)), .agg ((cValue y_4).map .p), .p (.int .i64 (if last7 > (IntKind.i64.wrap ((IntKind.u64.wrap (order1.getD i8.toNat (0 : Int))).tmod 40)) then last7 else (IntKind.i64.wrap ((IntKind.u64.wrap (order1.getD i8.toNat (0 : Int))).tmod 40))))] (.tup [.sref 0 46 5 (y_6.1).length, .sref 1 36 2 (y_6.2.1).length, .p (.int .i64 y_6.2.2)]) [(oL true 46 5 cCached dCached y_6.1), (oL true 36 2 cEntry dEntry y_6.2.1)])], .n 2, .r [(1, .dec false)], .n 6, .k [0, 1, 5, 6, 7, 8]] (by kernel_rfl) (Obs.of (by kernel_rfl) (And.intro g_1 (And.intro g_2 (And.intro g_3 (And.intro (show (40 : Int) ≠ 0 from (by decide)) (And.intro (erasureref01_Int.spec e_5) (And.intro (And.intro (fls_cons (fle_rfl (.agg ((cCache c5b).map .p))) (fls_cons (fle_rfl (.p (eL 5 cCached dCached s6))) (fls_cons (fle_nil 2 cEntry dEntry) (fls_cons (fle_rfl (.agg ((cValue y_4).map .p))) (fls_cons (fle_rfl (.p (.int .i64 (if last7 > (IntKind.i64.wrap ((IntKind.u64.wrap (order1.getD i8.toNat (0 : Int))).tmod 40)) then last7 else (IntKind.i64.wrap ((IntKind.u64.wrap (order1.getD i8.toNat (0 : Int))).tmod 40)))))) fls_nil))))) (cache_Lookup.spec e_7)) (nt g_8)))))))) (ih _ _ _ _ _ _ r h)
      · obtain ⟨y_9, e_10, h⟩ := bind_or h
        obtain ⟨y_11, e_12, h⟩ := bind_or h
        rcases ite_or h with ⟨g_13, h⟩ | ⟨g_13, h⟩
        · obtain rfl := Option.some.inj h
          exact RunC.out [.n 2, .r [(1, .dec true)], .n 8, .r [(3, .dec false)], .n 7, .r [(3, .call (.agg ((cValue y_9).map .p)) []), (5, .callL [.agg ((cCache c5b).map .p), .p (eL 5 cCached dCached s6), .p (eL 2 cEntry dEntry ([] : List TEntry)), .agg ((cValue y_9).map .p), .p (.int .i64 (if last7 > i8 then last7 else i8))] (.tup [.sref 0 46 5 (y_11.1).length, .sref 1 36 2 (y_11.2.1).length, .p (.int .i64 y_11.2.2)]) [(oL true 46 5 cCached dCached y_11.1), (oL true 36 2 cEntry dEntry y_11.2.1)])], .n 2, .r [(1, .dec true)], .n 3] (by kernel_rfl) (Obs.of (by kernel_rfl) (And.intro g_1 (And.intro (nt g_2) (And.intro (erasureref01_Int.spec e_10) (And.intro (And.intro (fls_cons (fle_rfl (.agg ((cCache c5b).map .p))) (fls_cons (fle_rfl (.p (eL 5 cCached dCached s6))) (fls_cons (fle_nil 2 cEntry dEntry) (fls_cons (fle_rfl (.agg ((cValue y_9).map .p))) (fls_cons (fle_rfl (.p (.int .i64 (if last7 > i8 then last7 else i8)))) fls_nil))))) (cache_Lookup.spec e_12)) g_13)))))
        · exact RunC.go [.n 2, .r [(1, .dec true)], .n 8, .r [(3, .dec false)], .n 7, .r [(3, .call (.agg ((cValue y_9).map .p)) []), (5, .callL [.agg ((cCache c5b).map .p), .p (eL 5 cCached dCached s6), .p (eL 2 cEntry dEntry ([] : List TEntry)), .agg ((cValue y_9).map .p), .p (.int .i64 (if last7 > i8 then last7 else i8))] (.tup [.sref 0 46 5 (y_11.1).length, .sref 1 36 2 (y_11.2.1).length, .p (.int .i64 y_11.2.2)]) [(oL true 46 5 cCached dCached y_11.1), (oL true 36 2 cEntry dEntry y_11.2.1)])], .n 2, .r [(1, .dec false)], .n 6, .k [0, 1, 5, 6, 7, 8]] (by kernel_rfl) (Obs.of (by kernel_rfl) (And.intro g_1 (And.intro (nt g_2) (And.intro (erasureref01_Int.spec e_10) (And.intro (And.intro (fls_cons (fle_rfl (.agg ((cCache c5b).map .p))) (fls_cons (fle_rfl (.p (eL 5 cCached dCached s6))) (fls_cons (fle_nil 2 cEntry dEntry) (fls_cons (fle_rfl (.agg ((cValue y_9).map .p))) (fls_cons (fle_rfl (.p (.int .i64 (if last7 > i8 then last7 else i8)))) fls_nil))))) (cache_Lookup.spec e_12)) (nt g_13)))))) (ih _ _ _ _ _ _ r h)
    · rcases ite_or h with ⟨g_14, h⟩ | ⟨g_14, h⟩
      · obtain rfl := Option.some.inj h
        exact RunC.out [.n 2, .r [(1, .dec false)], .n 4, .r [(2, .dec true)], .n 3] (by kernel_rfl) (Obs.of (by kernel_rfl) (And.intro (nt g_1) g_14))
      · exact RunC.go [.n 2, .r [(1, .dec false)], .n 4, .r [(2, .dec false)], .n 9, .k [0, 5, 6, 13, 14]] (by kernel_rfl) (Obs.of (by kernel_rfl) (And.intro (nt g_1) (nt g_14))) (erasurelaw30_CacheBounds.p2.run k _ _ _ _ _ r h)
theorem erasurelaw30_CacheBounds.run   {k : Nat} {n0 : Int} {order1 : (List Int)} {r : Bool} (h : erasurelaw30_CacheBounds k n0 order1 = some r) : RunC Try.prog Try.f5 erasurelaw30_CacheBounds.t (erasurelaw30_CacheBounds.s n0 order1) (.p (.bool r)) [] := by
  unfold erasurelaw30_CacheBounds at h
  exact RunC.go [.n 5, .r [(0, .obj (oL true 46 5 cCached dCached ([] : List TCached)))], .n 7, .k [0, 1, 5, 6, 7, 8]] (by kernel_rfl) (Obs.of (by kernel_rfl) (le_nil 46 5 cCached dCached)) (erasurelaw30_CacheBounds.p1.run k _ _ _ _ _ _ r h)
theorem erasurelaw30_CacheBounds.p3.mono   : ∀ (k k' : Nat) (old13 : Int) (i18 : Int) (s6 : (List TCached)) (t15 : (List TCached)) (r : Bool), k ≤ k' → erasurelaw30_CacheBounds.p3 k old13 i18 s6 t15 = some r → erasurelaw30_CacheBounds.p3 k' old13 i18 s6 t15 = some r := by
  intro k
  induction k with
  | zero => intro k' old13 i18 s6 t15 r hk h; simp [erasurelaw30_CacheBounds.p3] at h
  | succ k ih =>
    intro k' old13 i18 s6 t15 r hk h
    obtain ⟨k', rfl⟩ : ∃ m, k' = m + 1 := ⟨k' - 1, by omega⟩
    replace hk := Nat.le_of_succ_le_succ hk
    rw [erasurelaw30_CacheBounds.p3] at h ⊢
    rcases ite_or h with ⟨g_25, h⟩ | ⟨g_25, h⟩
    · refine itp g_25 ?_
      obtain ⟨g_26, h⟩ := ite_some h
      refine itp g_26 ?_
      obtain ⟨g_27, h⟩ := ite_some h
      refine itp g_27 ?_
      rcases ite_or h with ⟨g_28, h⟩ | ⟨g_28, h⟩
      · refine itp g_28 ?_
        exact h
      · refine itn g_28 ?_
        exact ih _ _ _ _ _ r hk h
    · refine itn g_25 ?_
      obtain ⟨y_29, e_30, h⟩ := bind_or h
      refine bnd (erasurelaw30_awake.mono _ _  _ hk e_30) ?_
      exact h
theorem erasurelaw30_CacheBounds.p2.mono   : ∀ (k k' : Nat) (n0 : Int) (old13 : Int) (i14 : Int) (c5b : TCache) (s6 : (List TCached)) (r : Bool), k ≤ k' → erasurelaw30_CacheBounds.p2 k n0 old13 i14 c5b s6 = some r → erasurelaw30_CacheBounds.p2 k' n0 old13 i14 c5b s6 = some r := by
  intro k
  induction k with
  | zero => intro k' n0 old13 i14 c5b s6 r hk h; simp [erasurelaw30_CacheBounds.p2] at h
  | succ k ih =>
    intro k' n0 old13 i14 c5b s6 r hk h
    obtain ⟨k', rfl⟩ : ∃ m, k' = m + 1 := ⟨k' - 1, by omega⟩
    replace hk := Nat.le_of_succ_le_succ hk
    rw [erasurelaw30_CacheBounds.p2] at h ⊢
    rcases ite_or h with ⟨g_15, h⟩ | ⟨g_15, h⟩
    · refine itp g_15 ?_
      obtain ⟨g_16, h⟩ := ite_some h
      refine itp g_16 ?_
      obtain ⟨g_17, h⟩ := ite_some h
      refine itp g_17 ?_
      rcases ite_or h with ⟨g_18, h⟩ | ⟨g_18, h⟩
      · refine itp g_18 ?_
        exact ih _ _ _ _ _ _ r hk h
      · refine itn g_18 ?_
        exact ih _ _ _ _ _ _ r hk h
    · refine itn g_15 ?_
      obtain ⟨y_19, e_20, h⟩ := bind_or h
      refine bnd (erasureref01_Int.mono _ _ _ _ hk e_20) ?_
      obtain ⟨y_21, e_22, h⟩ := bind_or h
      refine bnd (cache_Lookup.mono _ _ _ _ _ _ _ _ hk e_22) ?_
      rcases ite_or h with ⟨g_23, h⟩ | ⟨g_23, h⟩
      · refine itp g_23 ?_
        exact h
      · refine itn g_23 ?_
        rcases ite_or h with ⟨g_24, h⟩ | ⟨g_24, h⟩
        · refine itp g_24 ?_
          exact h
        · refine itn g_24 ?_
          exact erasurelaw30_CacheBounds.p3.mono _ _ _ _ _ _ r hk h
theorem erasurelaw30_CacheBounds.p1.mono   : ∀ (k k' : Nat) (n0 : Int) (order1 : (List Int)) (last7 : Int) (i8 : Int) (c5b : TCache) (s6 : (List TCached)) (r : Bool), k ≤ k' → erasurelaw30_CacheBounds.p1 k n0 order1 last7 i8 c5b s6 = some r → erasurelaw30_CacheBounds.p1 k' n0 order1 last7 i8 c5b s6 = some r := by
  intro k
  induction k with
  | zero => intro k' n0 order1 last7 i8 c5b s6 r hk h; simp [erasurelaw30_CacheBounds.p1] at h
  | succ k ih =>
    intro k' n0 order1 last7 i8 c5b s6 r hk h
    obtain ⟨k', rfl⟩ : ∃ m, k' = m + 1 := ⟨k' - 1, by omega⟩
    replace hk := Nat.le_of_succ_le_succ hk
    rw [erasurelaw30_CacheBounds.p1] at h ⊢
    rcases ite_or h with ⟨g_1, h⟩ | ⟨g_1, h⟩
    · refine itp g_1 ?_
      rcases ite_or h with ⟨g_2, h⟩ | ⟨g_2, h⟩
      · refine itp g_2 ?_
        obtain ⟨g_3, h⟩ := ite_some h
        refine itp g_3 ?_
        obtain ⟨y_4, e_5, h⟩ := bind_or h
        refine bnd (erasureref01_Int.mono _ _ _ _ hk e_5) ?_
        obtain ⟨y_6, e_7, h⟩ := bind_or h
        refine bnd (cache_Lookup.mono _ _ _ _ _ _ _ _ hk e_7) ?_
        rcases ite_or h with ⟨g_8, h⟩ | ⟨g_8, h⟩
        · refine itp g_8 ?_
          exact h
        · refine itn g_8 ?_
          exact ih _ _ _ _ _ _ _ r hk h
      · refine itn g_2 ?_
        obtain ⟨y_9, e_10, h⟩ := bind_or h
        refine bnd (erasureref01_Int.mono _ _ _ _ hk e_10) ?_
        obtain ⟨y_11, e_12, h⟩ := bind_or h
        refine bnd (cache_Lookup.mono _ _ _ _ _ _ _ _ hk e_12) ?_
        rcases ite_or h with ⟨g_13, h⟩ | ⟨g_13, h⟩
        · refine itp g_13 ?_
          exact h
        · refine itn g_13 ?_
          exact ih _ _ _ _ _ _ _ r hk h
    · refine itn g_1 ?_
      rcases ite_or h with ⟨g_14, h⟩ | ⟨g_14, h⟩
      · refine itp g_14 ?_
        exact h
      · refine itn g_14 ?_
        exact erasurelaw30_CacheBounds.p2.mono _ _ _ _ _ _ _ r hk h
theorem erasurelaw30_CacheBounds.mono   : ∀ (k k' : Nat) (n0 : Int) (order1 : (List Int)) (r : Bool), k ≤ k' → erasurelaw30_CacheBounds k n0 order1 = some r → erasurelaw30_CacheBounds k' n0 order1 = some r := by
  intro k k' n0 order1 r hk h
  unfold erasurelaw30_CacheBounds at h ⊢
  exact erasurelaw30_CacheBounds.p1.mono _ _ _ _ _ _ _ _ r hk h
theorem erasurelaw30_CacheBounds.spec {k : Nat} {n0 : Int} {order1 : (List Int)} {r : Bool} (h : erasurelaw30_CacheBounds k n0 order1 = some r) : Spec Try.prog 5 [.p (.int .i64 n0), .p (eL 1 (cI .i64) (0 : Int) order1)] (.p (.bool r)) [] :=
  spec_of mix Try.func5 (body := bodyOf Try.f5) (by kernel_rfl) (by kernel_rfl) (erasurelaw30_CacheBounds.run h)
end Go.Proofs.YtjhnpaenhdbhpabV
set_option linter.unusedVariables false
set_option linter.unusedSimpArgs false
namespace Go.Proofs.YtjhnpaenhdbhpabV
open Go Go.RowKit
theorem awake30_ev : Ev (fun k => erasurelaw30_awake k) true := Ev.of (fun k k' hk h => erasurelaw30_awake.mono k k' true hk h) (k := 60) (by kernel_rfl)
theorem insC_len (w : TValue) (y : TCached) : ∀ l : List TCached, (insC w y l).length = l.length + 1
  | [] => rfl
  | x :: l => by rw [insC_cons]; split <;> simp [insC_len w y l]
theorem insC_mem (w : TValue) (y : TCached) : ∀ l : List TCached, ∀ x ∈ insC w y l, x = y ∨ x ∈ l
  | [], x, hx => by left; simpa [insC] using hx
  | z :: l, x, hx => by
    rw [insC_cons] at hx
    split at hx
    · rcases List.mem_cons.1 hx with rfl | hx
      · exact .inr (List.mem_cons_self ..)
      · exact (insC_mem w y l x hx).imp id (List.mem_cons_of_mem _)
    · rcases List.mem_cons.1 hx with rfl | hx
      · exact .inl rfl
      · exact .inr hx
end Go.Proofs.YtjhnpaenhdbhpabV
set_option linter.unusedVariables false
set_option linter.unusedSimpArgs false
namespace Go.Proofs.YtjhnpaenhdbhpabV
open Go Go.RowKit
theorem ctF_of : ∀ (l : List TCached) (p : Option TCached), (∀ x ∈ l, okV x.f0 = true ∧ bagV x.f1 = true ∧ okD x.f2 = true) → Ord l → (∀ q, p = some q → ∀ x ∈ l, cmpV q.f0 x.f0 < 0) → ctF p l = true
  | [], p, _, _, _ => by cases p <;> rfl
  | y :: l, p, h1, h2, h3 => by
    have hy := h1 y (List.mem_cons_self ..)
    have h4 := List.pairwise_cons.1 h2
    have ih := ctF_of l (some y) (fun x hx => h1 x (List.mem_cons_of_mem _ hx)) h4.2 (fun q hq x hx => by cases hq; exact h4.1 x hx)
    cases p with
    | none => simp [ctF, hy, ih]
    | some p => simp [ctF, hy, ih, h3 p rfl y (List.mem_cons_self ..)]
theorem cacheV_of {l : List TCached} (h1 : ∀ x ∈ l, okV x.f0 = true ∧ bagV x.f1 = true ∧ okD x.f2 = true) (h2 : Ord l) (h3 : l.length ≤ 16) : cacheV l = true := by
  unfold cacheV
  rw [ctF_of l none h1 h2 (fun q hq => by cases hq), decide_eq_true h3]; rfl
theorem insC_ord (w : TValue) (y : TCached) (hw : okV w = true) (hy : y.f0 = w) : ∀ l : List TCached, Ord l → (∀ x ∈ l, okV x.f0 = true) → (∀ x ∈ l, x.f0 ≠ w) → Ord (insC w y l)
  | [], _, _, _ => List.pairwise_singleton _ _
  | x :: l, ho, hk, hn => by
    rw [insC_cons]
    have h1 := List.pairwise_cons.1 ho
    have hx := hk x (List.mem_cons_self ..)
    by_cases h : cmpV x.f0 w < 0
    · rw [if_pos h]
      refine List.pairwise_cons.2 ⟨fun z hz => ?_, insC_ord w y hw hy l h1.2 (fun z hz => hk z (List.mem_cons_of_mem _ hz)) (fun z hz => hn z (List.mem_cons_of_mem _ hz))⟩
      rcases insC_mem w y l z hz with rfl | hz
      · rw [hy]; exact h
      · exact h1.1 z hz
    · rw [if_neg h]
      have hz : cmpV x.f0 w ≠ 0 := fun e => hn x (List.mem_cons_self ..) ((cmpV_zero hx hw).1 e)
      have hs := cmpV_swap x.f0 w
      refine List.pairwise_cons.2 ⟨fun z hz => ?_, ho⟩
      rw [hy]
      rcases List.mem_cons.1 hz with rfl | hz
      · omega
      · exact cmpV_trans (show cmpV w x.f0 < 0 by omega) (h1.1 z hz)
theorem dropOld_sub (l : List TCached) : (dropOld l).Sublist l := by
  unfold dropOld
  have h1 := List.take_append_drop (oldestF l 0 1 (l.drop 1)) l
  have h2 : (l.drop (oldestF l 0 1 (l.drop 1) + 1)).Sublist (l.drop (oldestF l 0 1 (l.drop 1))) := by rw [← List.drop_drop]; exact List.drop_sublist _ _
  have := (List.Sublist.refl (l.take (oldestF l 0 1 (l.drop 1)))).append h2
  rwa [h1] at this
theorem lookF_ok (rows : List TEntry) (d : Int) (c : TCache) (out : List TCached) (w : TValue) (hb : bagV rows = true) (hd : okD d = true) (hw : okV w = true) (ho : cacheV out = true) : ∀ l : List TCached, (∀ x ∈ l, x ∈ out) → (∀ x ∈ out, x.f0 = w → x ∈ l) →
    cacheV (lookF rows d c out w l).1 = true ∧ bagV (lookF rows d c out w l).2.1 = true
  | [], _, hno => by
    have hm := cacheV_mem ho
    have hl := cacheV_len ho
    have hne : ∀ x ∈ out, x.f0 ≠ w := fun x hx e => by have := hno x hx e; cases this
    have hsel : bagV (selS rows c.f2 w) = true := bagV_filter _ hb
    refine ⟨?_, hsel⟩
    unfold lookF
    have hsub : (if 16 ≤ out.length then dropOld out else out).Sublist out := by split; exact dropOld_sub out; exact List.Sublist.refl _
    have hlen : (if 16 ≤ out.length then dropOld out else out).length ≤ 15 := by
      split
      · rw [dropOld_len (by omega)]; omega
      · omega
    refine cacheV_of (fun x hx => ?_) (insC_ord w _ hw rfl _ ((cacheV_ord ho).sublist hsub) (fun x hx => (hm x (hsub.mem hx)).1) (fun x hx => hne x (hsub.mem hx))) (by rw [insC_len]; omega)
    rcases insC_mem w _ _ x hx with rfl | hx
    · exact ⟨hw, hsel, hd⟩
    · exact hm x (hsub.mem hx)
  | x :: l, hs, hno => by
    unfold lookF
    by_cases h : x.f0 = w
    · rw [if_pos h]; exact ⟨ho, (cacheV_mem ho x (hs x (List.mem_cons_self ..))).2.1⟩
    · rw [if_neg h]
      refine lookF_ok rows d c out w hb hd hw ho l (fun y hy => hs y (List.mem_cons_of_mem _ hy)) (fun y hy e => ?_)
      rcases List.mem_cons.1 (hno y hy e) with rfl | hy
      · exact absurd e h
      · exact hy
theorem cacheV_filter {l : List TCached} (p : TCached → Bool) (h : cacheV l = true) : cacheV (l.filter p) = true :=
  cacheV_of (fun x hx => cacheV_mem h x (List.mem_filter.1 hx).1) ((cacheV_ord h).filter _) (Nat.le_trans (List.length_filter_le _ _) (cacheV_len h))
theorem expS_ok (t d : Int) (l : List TCached) : cacheV (expS t l d) = true := by
  unfold expS
  split
  · rename_i h; simp only [Bool.and_eq_true] at h; exact cacheV_filter _ h.1
  · rfl
theorem lookS_ok (c : TCache) (l : List TCached) (rows : List TEntry) (v : TValue) (d : Int) : cacheV (lookS c l rows v d).1 = true ∧ bagV (lookS c l rows v d).2.1 = true := by
  unfold lookS
  split
  · rename_i h
    simp only [Bool.and_eq_true] at h
    exact lookF_ok rows d c _ _ h.2.1 h.2.2.2 (okV_cl v) (expS_ok _ _ _) _ (fun _ h => h) (fun _ h _ => h)
  · exact ⟨rfl, rfl⟩
theorem refS_ok (c : TCache) (s : List TCached) (rows : List TEntry) (d : Int) : cacheV (refS c s rows d) = true := by
  unfold refS
  split
  · rename_i h
    simp only [Bool.and_eq_true] at h
    have hm := cacheV_mem h.1
    have key : ∀ x y, refF rows c.f2 d x = some y → y.f0 = x.f0 ∧ bagV y.f1 = true ∧ y.f2 = d := by
      intro x y hxy
      unfold refF at hxy
      split at hxy
      · cases hxy
      · injection hxy with hxy; subst hxy; exact ⟨rfl, bagV_filter _ h.2.1, rfl⟩
    refine cacheV_of (fun y hy => ?_) ?_ (Nat.le_trans (List.length_filterMap_le _ _) (cacheV_len h.1))
    · obtain ⟨x, hx, hxy⟩ := List.mem_filterMap.1 hy
      obtain ⟨k1, k2, k3⟩ := key x y hxy
      exact ⟨by rw [k1]; exact (hm x hx).1, k2, by rw [k3]; exact h.2.2.2⟩
    · refine List.Pairwise.filterMap _ (fun a a' haa b hb b' hb' => ?_) (cacheV_ord h.1)
      rw [(key a b hb).1, (key a' b' hb').1]; exact haa
  · rfl
theorem purS_ok (s : List TCached) (vs : List TValue) : cacheV (purS s vs) = true := by
  unfold purS
  split
  · rename_i h; exact cacheV_filter _ h
  · rfl
theorem cacheV_fin {l : List TCached} (h : cacheV l = true) : FinC l :=
  ⟨by have := cacheV_len h; omega, fun x hx => bagV_fin (cacheV_mem h x hx).2.1⟩
theorem same_self {l : List TCached} (h : FinC l) : Ev (fun k => erasureref30_Same k l l) true := by
  have := refSame_ev l l h
  simpa using this
theorem sameBag_self {l : List TEntry} (h : Fin l) : Ev (fun k => erasureref26_SameBag k l l) true := by
  have := ref26_SameBag_ev l l h
  simpa using this
end Go.Proofs.YtjhnpaenhdbhpabV
set_option linter.unusedVariables false
set_option linter.unusedSimpArgs false
namespace Go.Proofs.YtjhnpaenhdbhpabV
open Go Go.RowKit
theorem fin_of {l : List TEntry} (h0 : l.length ≤ maxLen ∧ ∀ e0 ∈ l, ((e0.f0.length ≤ maxLen ∧ ∀ e1 ∈ e0.f0, ((Lit.int .i64 e1.f0).wf = true ∧ ((Lit.int .i64 e1.f1).wf = true ∧ e1.f2.size ≤ maxLen))) ∧ (Lit.int .i64 e0.f1).wf = true)) : Fin l :=
  ⟨by have := h0.1; simp only [maxLen] at this; omega, fun e he => by have := (h0.2 e he).1.1; simp only [maxLen] at this; omega⟩
theorem aw30 : Ev (fun k => (erasurelaw30_awake k).bind fun y => some y) true := Ev.bind awake30_ev (Ev.now _)
end Go.Proofs.YtjhnpaenhdbhpabV
set_option linter.unusedVariables false
set_option linter.unusedSimpArgs false
namespace Go.Proofs.YtjhnpaenhdbhpabV
open Go Go.RowKit
theorem plays_tail (c : TCache) (s : List TCached) (rows : List TEntry) (hs : cacheV s = true) (hr : Fin rows) {g : Nat → Option Bool} (h : Ev g true) :
    Ev (fun k => (erasureref30_Same k s s).bind fun a => (if (!a) = true then (some false) else ((cache_Valid k s).bind fun b => (if (!b) = true then (some false) else ((cache_Fresh k c s rows).bind fun x => ((erasureref30_Fresh k c s rows).bind fun y => (if (!(x == y)) = true then (some false) else (g k)))))))) true := by
  have fc := cacheV_fin hs
  have hv := cache_Valid_ev s fc
  rw [hs] at hv
  exact Ev.bind (same_self fc) (Ev.ite_neg (by simp) (Ev.bind hv (Ev.ite_neg (by simp) (Ev.bind (Fresh_ev c s rows fc hr) (Ev.bind (refFresh_ev c s rows fc hr) (Ev.ite_neg (by simp) h))))))
theorem plays_step (c : TCache) (s : List TCached) (rows : List TEntry) (a : TAct) (hs : cacheV s = true) (hr : Fin rows) {g : Nat → List TCached → List TCached → Option Bool} (h : ∀ t, cacheV t = true → Ev (fun k => g k t t) true) :
    Ev (fun k => (if ((Go.bits .and .i64 (a.f0) 3) == 0) = true then ((cache_Lookup k c s rows (a.f1) (a.f2)).bind fun y_20 => ((erasureref30_Lookup k c s rows (a.f1) (a.f2)).bind fun y_22 => (if (y_20.2.2 != y_22.2.2) = true then (some false) else ((erasureref30_Same k y_20.1 y_22.1).bind fun y_25 => (if (!y_25) = true then (some false) else ((erasureref26_SameBag k y_20.2.1 y_22.2.1).bind fun y_28 => (if (!y_28) = true then (some false) else (if (y_20.2.2 == 0) = true then ((erasureref30_Same k y_20.1 y_22.1).bind fun y_32 => (if (!y_32) = true then (some false) else ((cache_Valid k y_20.1).bind fun y_35 => (if (!y_35) = true then (some false) else ((cache_Fresh k c y_20.1 rows).bind fun y_38 => ((erasureref30_Fresh k c y_22.1 rows).bind fun y_40 => (if (!(y_38 == y_40)) = true then (some false) else (g k y_20.1 y_22.1)))))))) else ((erasureref30_Same k s s).bind fun y_43 => (if (!y_43) = true then (some false) else ((cache_Valid k s).bind fun y_46 => (if (!y_46) = true then (some false) else ((cache_Fresh k c s rows).bind fun y_49 => ((erasureref30_Fresh k c s rows).bind fun y_51 => (if (!(y_49 == y_51)) = true then (some false) else (g k s s)))))))))))))))) else (if ((Go.bits .and .i64 (a.f0) 3) == 1) = true then ((cache_Refill k c s rows (a.f2)).bind fun y_55 => ((erasureref30_Refill k c s rows (a.f2)).bind fun y_57 => ((erasureref30_Same k y_55 y_57).bind fun y_59 => (if (!y_59) = true then (some false) else ((cache_Valid k y_55).bind fun y_62 => (if (!y_62) = true then (some false) else ((cache_Fresh k c y_55 rows).bind fun y_65 => ((erasureref30_Fresh k c y_57 rows).bind fun y_67 => (if (!(y_65 == y_67)) = true then (some false) else (g k y_55 y_57)))))))))) else (if ((Go.bits .and .i64 (a.f0) 3) == 2) = true then ((cache_Purge k s ([a.f1])).bind fun y_71 => ((erasureref30_Purge k s ([a.f1])).bind fun y_73 => ((erasureref30_Same k y_71 y_73).bind fun y_75 => (if (!y_75) = true then (some false) else ((cache_Valid k y_71).bind fun y_78 => (if (!y_78) = true then (some false) else ((cache_Fresh k c y_71 rows).bind fun y_81 => ((erasureref30_Fresh k c y_73 rows).bind fun y_83 => (if (!(y_81 == y_83)) = true then (some false) else (g k y_71 y_73)))))))))) else (if ((Go.bits .and .i64 (a.f0) 3) == 3) = true then ((cache_Expire k c s (a.f2)).bind fun y_87 => ((erasureref30_Expire k c s (a.f2)).bind fun y_89 => ((erasureref30_Same k y_87 y_89).bind fun y_91 => (if (!y_91) = true then (some false) else ((cache_Valid k y_87).bind fun y_94 => (if (!y_94) = true then (some false) else ((cache_Fresh k c y_87 rows).bind fun y_97 => ((erasureref30_Fresh k c y_89 rows).bind fun y_99 => (if (!(y_97 == y_99)) = true then (some false) else (g k y_87 y_89)))))))))) else ((erasureref30_Same k s s).bind fun y_102 => (if (!y_102) = true then (some false) else ((cache_Valid k s).bind fun y_105 => (if (!y_105) = true then (some false) else ((cache_Fresh k c s rows).bind fun y_108 => ((erasureref30_Fresh k c s rows).bind fun y_110 => (if (!(y_108 == y_110)) = true then (some false) else (g k s s))))))))))))) true := by
  have fc := cacheV_fin hs
  by_cases k0 : (Go.bits .and .i64 (a.f0) 3 == 0) = true
  · have lo := lookS_ok c s rows a.f1 a.f2
    refine Ev.ite_pos k0 (Ev.bind (Lookup_ev c s rows a.f1 a.f2 fc hr) (Ev.bind (refLookup_ev c s rows a.f1 a.f2 fc hr) (Ev.ite_neg (by simp) (Ev.bind (same_self (cacheV_fin lo.1)) (Ev.ite_neg (by simp) (Ev.bind (sameBag_self (bagV_fin lo.2)) (Ev.ite_neg (by simp) ?_)))))))
    by_cases he : ((lookS c s rows a.f1 a.f2).2.2 == 0) = true
    · exact Ev.ite_pos he (plays_tail c _ rows lo.1 hr (h _ lo.1))
    · exact Ev.ite_neg he (plays_tail c _ rows hs hr (h _ hs))
  refine Ev.ite_neg k0 ?_
  by_cases k1 : (Go.bits .and .i64 (a.f0) 3 == 1) = true
  · exact Ev.ite_pos k1 (Ev.bind (Refill_ev c s rows a.f2 fc hr) (Ev.bind (refRefill_ev c s rows a.f2 fc hr) (plays_tail c _ rows (refS_ok _ _ _ _) hr (h _ (refS_ok _ _ _ _)))))
  refine Ev.ite_neg k1 ?_
  by_cases k2 : (Go.bits .and .i64 (a.f0) 3 == 2) = true
  · exact Ev.ite_pos k2 (Ev.bind (Purge_ev s [a.f1] fc (by simp)) (Ev.bind (refPurge_ev s [a.f1] fc (by simp)) (plays_tail c _ rows (purS_ok _ _) hr (h _ (purS_ok _ _)))))
  refine Ev.ite_neg k2 ?_
  by_cases k3 : (Go.bits .and .i64 (a.f0) 3 == 3) = true
  · exact Ev.ite_pos k3 (Ev.bind (Expire_ev c s a.f2 fc) (Ev.bind (refExpire_ev c s a.f2 fc) (plays_tail c _ rows (expS_ok _ _ _) hr (h _ (expS_ok _ _ _)))))
  exact Ev.ite_neg k3 (plays_tail c _ rows hs hr (h _ hs))
theorem view_idx (v : Int) (n : Nat) (h : 0 < n) (hn : n ≤ 4) : 0 ≤ IntKind.i64.wrap ((IntKind.u64.wrap v).tmod (IntKind.u64.wrap (n : Int))) ∧ IntKind.i64.wrap ((IntKind.u64.wrap v).tmod (IntKind.u64.wrap (n : Int))) < (n : Int) := by
  have e : IntKind.u64.wrap (n : Int) = (n : Int) := by simp [IntKind.wrap, IntKind.bits, IntKind.signed]; omega
  have hv : 0 ≤ IntKind.u64.wrap v := by simp [IntKind.wrap, IntKind.bits, IntKind.signed]; omega
  rw [e]
  have h1 := Int.tmod_nonneg (n : Int) hv
  have h2 := Int.tmod_lt_of_pos (IntKind.u64.wrap v) (show (0 : Int) < n by omega)
  rw [wr (by omega)]
  exact ⟨h1, h2⟩
theorem CachePlays_std (x0 : TCache) (x1 : (List (List TEntry))) (x2 : (List TAct)) (h0 : (x0.f0.size ≤ maxLen ∧ (x0.f1.size ≤ maxLen ∧ ((Lit.int .i64 x0.f2).wf = true ∧ (Lit.int .i64 x0.f3).wf = true)))) (h1 : (x1.length ≤ maxLen ∧ ∀ e0 ∈ x1, (e0.length ≤ maxLen ∧ ∀ e1 ∈ e0, ((e1.f0.length ≤ maxLen ∧ ∀ e2 ∈ e1.f0, ((Lit.int .i64 e2.f0).wf = true ∧ ((Lit.int .i64 e2.f1).wf = true ∧ e2.f2.size ≤ maxLen))) ∧ (Lit.int .i64 e1.f1).wf = true)))) (h2 : (x2.length ≤ maxLen ∧ ∀ e0 ∈ x2, ((Lit.int .i64 e0.f0).wf = true ∧ (((Lit.int .i64 e0.f1.f0).wf = true ∧ ((Lit.int .i64 e0.f1.f1).wf = true ∧ e0.f1.f2.size ≤ maxLen)) ∧ ((Lit.int .i64 e0.f2).wf = true ∧ (Lit.int .i64 e0.f3).wf = true))))) : ∃ k, erasurelaw30_CachePlays k x0 x1 x2 = some true := by
  refine Ev.some (g := fun k => erasurelaw30_CachePlays k x0 x1 x2) ?_
  unfold erasurelaw30_CachePlays
  simp only [decide_eq_true_eq]
  by_cases c1 : (x2.length : Int) > 24
  · exact Ev.ite_pos c1 aw30
  refine Ev.ite_neg c1 ?_
  by_cases c2 : (x1.length : Int) > 4
  · exact Ev.ite_pos c2 aw30
  refine Ev.ite_neg c2 ?_
  have hfin : ∀ r ∈ x1, Fin r := fun r hr => fin_of (h1.2 r hr)
  have p2 : ∀ i, i ≤ x2.length → ∀ s : List TCached, cacheV s = true → Ev (fun k => erasurelaw30_CachePlays.p2 k x1 x2 s s (i : Int) x0) true := by
    refine loop_down (P := fun i => ∀ s : List TCached, cacheV s = true → Ev (fun k => erasurelaw30_CachePlays.p2 k x1 x2 s s (i : Int) x0) true) x2.length ?_ ?_
    · intro s _
      refine Ev.succ ?_
      simp only [erasurelaw30_CachePlays.p2, decide_eq_true_eq]
      exact Ev.ite_neg (by omega) aw30
    · intro i hi ih s hs
      refine Ev.succ ?_
      simp only [erasurelaw30_CachePlays.p2]
      rw [wrn hi (by omega)]
      refine Ev.ite_pos (by simp; omega) (Ev.ite_pos (by omega) ?_)
      by_cases hz : (x1.length : Int) > 0
      · have hix := view_idx (x2.getD (i : Int).toNat dAct).f3 x1.length (by omega) (by omega)
        refine Ev.ite_pos (decide_eq_true hz) (Ev.ite_pos (by simp [IntKind.wrap, IntKind.bits, IntKind.signed]; omega) (Ev.ite_pos hix ?_))
        generalize IntKind.i64.wrap ((IntKind.u64.wrap (x2.getD (i : Int).toNat dAct).f3).tmod (IntKind.u64.wrap (x1.length : Int))) = q at hix
        have hm : x1.getD q.toNat [] ∈ x1 := by
          have : q.toNat < x1.length := by omega
          simp [List.getD_eq_getElem?_getD, this]
        exact plays_step x0 s (x1.getD q.toNat []) (x2.getD (i : Int).toNat dAct) hs (hfin _ hm) (g := fun k a b => erasurelaw30_CachePlays.p2 k x1 x2 a b ((i + 1 : Nat) : Int) x0) (fun t ht => ih t ht)
      · refine Ev.ite_neg (by simpa using hz) ?_
        exact plays_step x0 s [] (x2.getD (i : Int).toNat dAct) hs ⟨by simp, fun e he => by cases he⟩ (g := fun k a b => erasurelaw30_CachePlays.p2 k x1 x2 a b ((i + 1 : Nat) : Int) x0) (fun t ht => ih t ht)
  have p1 : ∀ i, i ≤ x1.length → Ev (fun k => erasurelaw30_CachePlays.p1 k x1 x2 (i : Int) x0) true := by
    refine loop_down (P := fun i => Ev (fun k => erasurelaw30_CachePlays.p1 k x1 x2 (i : Int) x0) true) x1.length ?_ ?_
    · refine Ev.succ ?_
      simp only [erasurelaw30_CachePlays.p1, decide_eq_true_eq]
      exact Ev.ite_neg (by omega) (p2 0 (by omega) [] rfl)
    · intro i hi ih
      refine Ev.succ ?_
      simp only [erasurelaw30_CachePlays.p1, decide_eq_true_eq]
      rw [wrn hi (by omega)]
      refine Ev.ite_pos (by omega) (Ev.ite_pos (by omega) (Ev.bind (short_ev _ (hfin _ (getD_mem _ hi)).1) ?_))
      split
      · exact aw30
      · exact ih
  exact p1 0 (by omega)
end Go.Proofs.YtjhnpaenhdbhpabV
set_option linter.unusedVariables false
set_option linter.unusedSimpArgs false
set_option linter.constructorNameAsVariable false
namespace Go.Proofs.YtjhnpaenhdbhpabV
open Go Go.RowKit
def RepL (F : Nat → Prop) (w : World) : List AV → List Value → Prop
  | [], [] => True
  | a :: l, v :: m => Rep F w a v ∧ RepL F w l m
  | _, _ => False
theorem RepL.len {F : Nat → Prop} {w : World} : ∀ {l : List AV} {m : List Value}, RepL F w l m → l.length = m.length
  | [], [], _ => rfl
  | _ :: _, _ :: _, h => by simp [RepL.len h.2]
  | [], _ :: _, h => h.elim
  | _ :: _, [], h => h.elim
theorem RepL.get {F : Nat → Prop} {w : World} : ∀ {l : List AV} {m : List Value}, RepL F w l m → ∀ (i : Nat) (v : Value), m[i]? = some v → Rep F w (l.getD i .u) v
  | [], [], _, i, v, h => by simp at h
  | a :: l, u :: m, h, i, v, hv => by
    cases i with
    | zero =>
      simp only [List.getElem?_cons_zero, Option.some.injEq] at hv
      subst hv
      exact h.1
    | succ i => simpa using RepL.get h.2 i v (by simpa using hv)
  | [], _ :: _, h, _, _, _ => h.elim
  | _ :: _, [], h, _, _, _ => h.elim
theorem RepL.app {F : Nat → Prop} {w : World} : ∀ {l : List AV} {m : List Value} {l' : List AV} {m' : List Value}, RepL F w l m → RepL F w l' m' → RepL F w (l ++ l') (m ++ m')
  | [], [], _, _, _, k => k
  | _ :: _, _ :: _, _, _, h, k => ⟨h.1, RepL.app h.2 k⟩
  | [], _ :: _, _, _, h, _ => h.elim
  | _ :: _, [], _, _, h, _ => h.elim
theorem RepL.fv {F : Nat → Prop} {w : World} {κ : Nat → Value} {hp : List Ob} : ∀ {l : List AV} {m : List Value}, RepL F w l m → RelVs ⟨F, w, κ, hp⟩ (l.map .p) m
  | [], [], _ => by simp [RelVs]
  | a :: l, v :: m, h => by simp only [List.map_cons, RelVs]; exact ⟨v, m, rfl, by simp only [RelV]; exact h.1, RepL.fv h.2⟩
  | [], _ :: _, h => h.elim
  | _ :: _, [], h => h.elim
abbrev oldF (W : World) : Nat → Prop := fun b => b < W.heap.size
structure Op1 {α : Type} (P : Program) (t : TypeId) (c : α → List AV) (B : α → Prop) : Prop where mk ::
  out : ∀ {H : Type} (enc : TypeId × Value → H) (W : World) (fuel : Nat) (cs : List Value) (y : DataW H × List MemPlace), DataW.trod enc P W 0 (fun _ => true) true fuel t cs = some y → ∃ x, RepL (oldF W) W (c x) cs ∧ B x
theorem op1_int {P : Program} {t : TypeId} {k : IntKind} (ht : P.underlying t = some (.int k)) : Op1 P t (cI k) (fun n => (Lit.int k n).wf = true) := by
  constructor
  intro H enc W fuel cs y h
  obtain ⟨n, rfl, _, hw⟩ := DataW.trod_int ht h
  exact ⟨n, ⟨rfl, trivial⟩, hw⟩
theorem op1_string {P : Program} {t : TypeId} (ht : P.underlying t = some .string) : Op1 P t cS (fun s => s.size ≤ maxLen) := by
  constructor
  intro H enc W fuel cs y h
  obtain ⟨n, rfl, _, hs⟩ := DataW.trod_string ht h
  exact ⟨n, ⟨rfl, trivial⟩, hs⟩
theorem cell_add {W : World} {a : Addr} {n : Nat} {u : Value} (h : W.cell? (a.add n) = some u) : W.cell? ⟨a.block, a.off + n, none⟩ = some u := by
  unfold Addr.add at h
  split at h
  · rename_i hn
    subst hn
    have hs : a.spot = none := by
      unfold World.cell? at h
      split at h
      · split at h
        · cases h
        · rename_i hs; cases hq : a.spot with
          | none => rfl
          | some x => simp [hq] at hs
      · cases h
    cases a
    simp only at hs
    subst hs
    exact h
  · exact h
theorem spot_none {W : World} {a : Addr} {u : Value} (h : W.cell? a = some u) : a = ⟨a.block, a.off, none⟩ := by
  have hs : a.spot = none := by
    unfold World.cell? at h
    split at h
    · split at h
      · cases h
      · rename_i hs; cases hq : a.spot with
        | none => rfl
        | some x => simp [hq] at hs
    · cases h
  cases a
  simp only at hs
  subst hs
  rfl
theorem op1_slice {α : Type} {P : Program} {t e : TypeId} {sz : Nat} {c : α → List AV} (d : α) {B : α → Prop} (ht : P.underlying t = some (.slice e)) (hd : Op1 P e c B) (hc : P.cellsOf e = sz) (hs : ∀ x, (c x).length = sz) (h0 : 0 < sz) : Op1 P t (cL sz c d) (fun xs => xs.length ≤ maxLen ∧ ∀ x ∈ xs, B x) := by
  constructor
  intro H enc W fuel cs y h
  rcases DataW.trod_slice ht h with ⟨rfl, _⟩ | ⟨a, len, cap, elems, rest, n, _, rfl, _, _, hl, hm, hel, hat, _, _⟩
  · exact ⟨[], ⟨⟨none, 0, rfl, Nat.le_refl _, fun _ => rfl, .inl rfl⟩, trivial⟩, by simp [maxLen], fun x hx => by cases hx⟩
  · have key : ∀ i, i < len → ∃ x cs', cs'.length = sz ∧ RepL (oldF W) W (c x) cs' ∧ B x ∧ ∀ j u, cs'[j]? = some u → W.cell? (a.add (i * sz + j)) = some u := by
      intro i hi
      have h1 := hat i hi
      rw [List.getElem?_eq_getElem (by omega)] at h1
      obtain ⟨cs', h2, h3⟩ := Option.bind_eq_some_iff.1 h1
      obtain ⟨x, hk, hb⟩ := hd.out enc W n cs' _ h3
      have hlen : cs'.length = sz := by rw [← hs x, hk.len]
      refine ⟨x, cs', hlen, hk, hb, fun j u hu => ?_⟩
      rw [hc] at h2
      unfold World.cells? at h2
      rw [if_pos (Nat.zero_le _)] at h2
      have h4 := mapM_some_get h2 j j (by
        have := (List.getElem?_eq_some_iff.1 hu).1
        rw [hlen] at this
        simp [this])
      rw [hu] at h4
      have ha : (a.add (i * sz)).add j = a.add (i * sz + j) := by
        unfold Addr.add
        by_cases e1 : i * sz = 0 <;> by_cases e2 : j = 0 <;> simp [e1, e2, Nat.add_assoc]
      rw [ha] at h4
      exact h4
    have key2 : ∀ m, m ≤ len → ∃ xs : List α, xs.length = m ∧ (∀ x ∈ xs, B x) ∧ ∀ i x, xs[i]? = some x → ∃ cs', cs'.length = sz ∧ RepL (oldF W) W (c x) cs' ∧ ∀ j u, cs'[j]? = some u → W.cell? (a.add (i * sz + j)) = some u := by
      intro m
      induction m with
      | zero => intro _; exact ⟨[], rfl, fun x hx => (by cases hx), fun i x hx => by simp at hx⟩
      | succ m ih =>
        intro hm2
        obtain ⟨xs, h1, h2, h3⟩ := ih (by omega)
        obtain ⟨x, c', h4, h5, h6, h7⟩ := key m (by omega)
        refine ⟨xs ++ [x], by simp [h1], fun y hy => ?_, fun i y hy => ?_⟩
        · rcases List.mem_append.1 hy with hy | hy
          · exact h2 y hy
          · rw [List.mem_singleton.1 hy]; exact h6
        · rcases Nat.lt_or_ge i xs.length with hi | hi
          · rw [List.getElem?_append_left hi] at hy; exact h3 i y hy
          · have hi2 : i = xs.length := by
              have := (List.getElem?_eq_some_iff.1 hy).1
              simp at this
              omega
            subst hi2
            simp at hy
            subst hy
            rw [h1]
            exact ⟨c', h4, h5, h7⟩
    obtain ⟨xs, h1, h2, h3⟩ := key2 len (Nat.le_refl _)
    refine ⟨xs, ⟨⟨some a, cap, by rw [h1], by rw [h1]; omega, fun h => (nomatch h), ?_⟩, trivial⟩, by rw [h1]; simp only [maxLen] at hm ⊢; omega, h2⟩
    rcases Nat.eq_zero_or_pos len with hz | hz
    · left; rw [h1, hz]
    · right
      have hcell : ∀ i, i < len → ∀ j, j < sz → ∃ u, W.cell? (a.add (i * sz + j)) = some u ∧ Rep (oldF W) W ((c (xs.getD i d)).getD j .u) u := by
        intro i hi j hj
        have hxi : xs[i]? = some (xs.getD i d) := by rw [List.getD_eq_getElem?_getD, List.getElem?_eq_getElem (by omega)]; rfl
        obtain ⟨cs', k1, k2, k3⟩ := h3 i _ hxi
        have hcj : cs'[j]? = some (cs'[j]'(by omega)) := List.getElem?_eq_getElem (by omega)
        exact ⟨_, k3 j _ hcj, k2.get j _ hcj⟩
      obtain ⟨u0, hu0, _⟩ := hcell 0 hz 0 h0
      have ha0 : a.add (0 * sz + 0) = a := by simp [Addr.add]
      rw [ha0] at hu0
      refine ⟨a.block, a.off, by rw [← spot_none hu0], World.block_lt_of_cell? W a hu0, fun i hi j hj => ?_⟩
      rw [h1] at hi
      obtain ⟨u, k1, k2⟩ := hcell i hi j hj
      exact ⟨u, cell_add k1, k2⟩
structure OpFs {α : Type} (P : Program) (fs : List Field) (off sz : Nat) (c : α → List AV) (B : α → Prop) : Prop where mk ::
  out : ∀ {H : Type} (enc : TypeId × Value → H) (W : World) (fuel : Nat) (cs : List Value) (ys : List (DataW H × List MemPlace)), cs.length = off + sz → ys.length = fs.length →
    (∀ (i : Nat) (f : Field), fs[i]? = some f → DataW.trod enc P W 0 (fun _ => true) true fuel f.type ((cs.drop f.offset).take (P.cellsOf f.type)) = ys[i]?) → ∃ x, RepL (oldF W) W (c x) (cs.drop off) ∧ B x
theorem opFs_one {α : Type} {P : Program} {f : Field} {off sz : Nat} {c : α → List AV} {B : α → Prop} (ho : f.offset = off) (hc : P.cellsOf f.type = sz) (hd : Op1 P f.type c B) : OpFs P [f] off sz c B := by
  constructor
  intro H enc W fuel cs ys hl hy h
  have h0 := h 0 f rfl
  rw [List.getElem?_eq_getElem (by rw [hy]; exact Nat.zero_lt_one), ho, hc, List.take_of_length_le (by rw [List.length_drop]; omega)] at h0
  exact hd.out enc W fuel _ _ h0
theorem opFs_cons {α β : Type} {P : Program} {f : Field} {fs : List Field} {off sa sb : Nat} {a : α → List AV} {b : β → List AV} {Ba : α → Prop} {Bb : β → Prop} (ho : f.offset = off) (hc : P.cellsOf f.type = sa) (hd : Op1 P f.type a Ba) (hs : OpFs P fs (off + sa) sb b Bb) :
    OpFs P (f :: fs) off (sa + sb) (fun x : α × β => a x.1 ++ b x.2) (fun x => Ba x.1 ∧ Bb x.2) := by
  constructor
  intro H enc W fuel cs ys hl hy h
  cases ys with
  | nil => simp at hy
  | cons y ys =>
    have h0 := h 0 f rfl
    rw [ho, hc] at h0
    obtain ⟨x, hx, hbx⟩ := hd.out enc W fuel _ _ h0
    obtain ⟨z, hz, hbz⟩ := hs.out enc W fuel cs ys (by omega) (by simpa using hy) (fun i g hg => h (i + 1) g hg)
    refine ⟨(x, z), ?_, hbx, hbz⟩
    have e : cs.drop off = (cs.drop off).take sa ++ cs.drop (off + sa) := by rw [← List.drop_drop, List.take_append_drop]
    rw [e]
    exact hx.app hz
theorem op1_struct {α β : Type} {P : Program} {t : TypeId} {fs : Array Field} {sz : Nat} {c : β → List AV} {B : β → Prop} (c' : α → List AV) (B' : α → Prop) (g : β → α) (hc' : ∀ y, c' (g y) = c y) (hB : ∀ y, B y → B' (g y)) (ht : P.underlying t = some (.struct fs)) (hc : P.cellsOf t = sz) (hs : OpFs P fs.toList 0 sz c B) :
    Op1 P t c' B' := by
  constructor
  intro H enc W fuel cs y h
  obtain ⟨xs, n, _, _, hl, hx, hi⟩ := DataW.trod_struct ht h
  obtain ⟨x, hk, hb⟩ := hs.out enc W n cs xs (by rw [hl, hc]; omega) (by rw [hx]; simp) (fun i f hf => hi i f (by simpa using hf))
  refine ⟨g x, ?_, hB x hb⟩
  rw [hc']
  simpa using hk
theorem chg_below {w w' : World} (h : Chg (fun _ => False) w w') : Below w.heap.size w w' := ⟨h.os, h.tape, h.output, h.size, fun k hk => h.block k hk (fun h => h)⟩
theorem Spec.law {P : Program} {f : FuncId} {args : List FV} (h : Spec P f args (.p (.bool true)) []) {W : World} {vs : Array Value} (hv : RelVs ⟨oldF W, W, fun _ => undef, []⟩ args vs.toList) : Calls P f vs W fun e W' => e = .returned (.bool true) ∧ Below W.heap.size W W' := by
  refine (h W (oldF W) (fun _ => undef) vs (fun _ h => h) hv).mono fun e W' ⟨v, F', κ', he, hI, hr⟩ => ⟨?_, chg_below hI.chg⟩
  simp only [RelV, Rep] at hr
  rw [he, hr]
end Go.Proofs.YtjhnpaenhdbhpabV
