/- Part of the proof of CacheBounds: printed by programs of this repo out of the translation, and by hand. Each theorem's conditions stand in its statement. -/
import Derived.WideShapes
import Derived.ProofKit
import Derived.OpenShut
import Derived.ShutString
import Derived.ChangeOld
import Derived.SizedLaws
import Derived.ChangeSlices
import Derived.Orders
import Derived.Below
import Derived.Laws.AppendOwn
import Derived.Laws.OwnMore
import Derived.KernelRfl
import Derived.Test.YtjhnpaenhdbhpabMCacheBoundsa
import Derived.Test.YtjhnpaenhdbhpabMCacheBoundsb
set_option linter.unusedVariables false
set_option linter.unusedSimpArgs false
set_option maxRecDepth 100000
namespace Go.Proofs.YtjhnpaenhdbhpabV
open Go Go.RowKit
noncomputable def erasurelaw30_awake  (k : Nat)  : Option Bool := (erasureref01_Int k 7).bind fun y_1 => ((cache_Lookup k (TCache.mk (⟨#[]⟩ : ByteArray) (⟨#[]⟩ : ByteArray) 0 2) ([] : List TCached) ([(TEntry.mk ([y_1]) 3)]) y_1 5).bind fun y_3 => ((cache_Lookup k (TCache.mk (⟨#[]⟩ : ByteArray) (⟨#[]⟩ : ByteArray) 0 2) y_3.1 ([] : List TEntry) y_1 6).bind fun y_5 => ((cache_Lookup k (TCache.mk (⟨#[]⟩ : ByteArray) (⟨#[]⟩ : ByteArray) 0 2) y_5.1 ([] : List TEntry) y_1 7).bind fun y_7 => (if (y_3.2.2 == 0) = true then (if (y_5.2.2 == 0) = true then (if (y_7.2.2 == 0) = true then (if (((y_3.2.1).length : Int) == 1) = true then (if (((y_5.2.1).length : Int) == 1) = true then (some (((y_7.2.1).length : Int) == 0)) else (some false)) else (some false)) else (some false)) else (some false)) else (some false)))))
noncomputable def erasurelaw30_awake.t : List Item := [.code (bodyOf Try.f12)]
noncomputable def erasurelaw30_awake.s  : St := ⟨frOf Try.f12.ntmps 0 [], []⟩
theorem erasurelaw30_awake.run   {k : Nat}  {r : Bool} (h : erasurelaw30_awake k  = some r) : RunC Try.prog Try.f12 erasurelaw30_awake.t (erasurelaw30_awake.s ) (.p (.bool r)) [] := by
  unfold erasurelaw30_awake at h
  obtain ⟨y_1, e_2, h⟩ := bind_or h
  obtain ⟨y_3, e_4, h⟩ := bind_or h
  obtain ⟨y_5, e_6, h⟩ := bind_or h
  obtain ⟨y_7, e_8, h⟩ := bind_or h
  rcases ite_or h with ⟨g_9, h⟩ | ⟨g_9, h⟩
  · rcases ite_or h with ⟨g_10, h⟩ | ⟨g_10, h⟩
    · rcases ite_or h with ⟨g_11, h⟩ | ⟨g_11, h⟩
      · rcases ite_or h with ⟨g_12, h⟩ | ⟨g_12, h⟩
        · rcases ite_or h with ⟨g_13, h⟩ | ⟨g_13, h⟩
          · obtain rfl := Option.some.inj h
            exact RunC.out [.n 5, .r [(0, .call (.agg ((cValue y_1).map .p)) [])], .n 1, .r [(1, .obj (oL true 24 3 cValue dValue [y_1])), (3, .obj (oL true 36 2 cEntry dEntry [(TEntry.mk ([y_1]) 3)]))], .n 1, .r [(3, .callL [.agg ((cCache (TCache.mk (⟨#[]⟩ : ByteArray) (⟨#[]⟩ : ByteArray) 0 2)).map .p), .p (eL 5 cCached dCached ([] : List TCached)), .p (eL 2 cEntry dEntry ([(TEntry.mk ([y_1]) 3)])), .agg ((cValue y_1).map .p), .p (.int .i64 5)] (.tup [.sref 0 46 5 (y_3.1).length, .sref 1 36 2 (y_3.2.1).length, .p (.int .i64 y_3.2.2)]) [(oL true 46 5 cCached dCached y_3.1), (oL true 36 2 cEntry dEntry y_3.2.1)])], .n 1, .r [(3, .callL [.agg ((cCache (TCache.mk (⟨#[]⟩ : ByteArray) (⟨#[]⟩ : ByteArray) 0 2)).map .p), .p (eL 5 cCached dCached y_3.1), .p (eL 2 cEntry dEntry ([] : List TEntry)), .agg ((cValue y_1).map .p), .p (.int .i64 6)] (.tup [.sref 0 46 5 (y_5.1).length, .sref 1 36 2 (y_5.2.1).length, .p (.int .i64 y_5.2.2)]) [(oL true 46 5 cCached dCached y_5.1), (oL true 36 2 cEntry dEntry y_5.2.1)])], .n 1, .r [(3, .callL [.agg ((cCache (TCache.mk (⟨#[]⟩ : ByteArray) (⟨#[]⟩ : ByteArray) 0 2)).map .p), .p (eL 5 cCached dCached y_5.1), .p (eL 2 cEntry dEntry ([] : List TEntry)), .agg ((cValue y_1).map .p), .p (.int .i64 7)] (.tup [.sref 0 46 5 (y_7.1).length, .sref 1 36 2 (y_7.2.1).length, .p (.int .i64 y_7.2.2)]) [(oL true 46 5 cCached dCached y_7.1), (oL true 36 2 cEntry dEntry y_7.2.1)])], .n 1, .r [(2, .dec true), (6, .dec true), (10, .dec true), (15, .dec true), (20, .dec true)]] (by kernel_rfl) (Obs.of (by kernel_rfl) (And.intro (erasureref01_Int.spec e_2) (And.intro (le_one 24 3 cValue dValue y_1) (And.intro (le_one 36 2 cEntry dEntry (TEntry.mk ([y_1]) 3)) (And.intro (And.intro (fls_cons (fle_rfl (.agg ((cCache (TCache.mk (⟨#[]⟩ : ByteArray) (⟨#[]⟩ : ByteArray) 0 2)).map .p))) (fls_cons (fle_nil 5 cCached dCached) (fls_cons (fle_rfl (.p (eL 2 cEntry dEntry ([(TEntry.mk ([y_1]) 3)])))) (fls_cons (fle_rfl (.agg ((cValue y_1).map .p))) (fls_cons (fle_rfl (.p (.int .i64 5))) fls_nil))))) (cache_Lookup.spec e_4)) (And.intro (And.intro (fls_cons (fle_rfl (.agg ((cCache (TCache.mk (⟨#[]⟩ : ByteArray) (⟨#[]⟩ : ByteArray) 0 2)).map .p))) (fls_cons (fle_rfl (.p (eL 5 cCached dCached y_3.1))) (fls_cons (fle_nil 2 cEntry dEntry) (fls_cons (fle_rfl (.agg ((cValue y_1).map .p))) (fls_cons (fle_rfl (.p (.int .i64 6))) fls_nil))))) (cache_Lookup.spec e_6)) (And.intro (And.intro (fls_cons (fle_rfl (.agg ((cCache (TCache.mk (⟨#[]⟩ : ByteArray) (⟨#[]⟩ : ByteArray) 0 2)).map .p))) (fls_cons (fle_rfl (.p (eL 5 cCached dCached y_5.1))) (fls_cons (fle_nil 2 cEntry dEntry) (fls_cons (fle_rfl (.agg ((cValue y_1).map .p))) (fls_cons (fle_rfl (.p (.int .i64 7))) fls_nil))))) (cache_Lookup.spec e_8)) (And.intro g_9 (And.intro g_10 (And.intro g_11 (And.intro g_12 g_13)))))))))))
          · obtain rfl := Option.some.inj h
            exact RunC.out [.n 5, .r [(0, .call (.agg ((cValue y_1).map .p)) [])], .n 1, .r [(1, .obj (oL true 24 3 cValue dValue [y_1])), (3, .obj (oL true 36 2 cEntry dEntry [(TEntry.mk ([y_1]) 3)]))], .n 1, .r [(3, .callL [.agg ((cCache (TCache.mk (⟨#[]⟩ : ByteArray) (⟨#[]⟩ : ByteArray) 0 2)).map .p), .p (eL 5 cCached dCached ([] : List TCached)), .p (eL 2 cEntry dEntry ([(TEntry.mk ([y_1]) 3)])), .agg ((cValue y_1).map .p), .p (.int .i64 5)] (.tup [.sref 0 46 5 (y_3.1).length, .sref 1 36 2 (y_3.2.1).length, .p (.int .i64 y_3.2.2)]) [(oL true 46 5 cCached dCached y_3.1), (oL true 36 2 cEntry dEntry y_3.2.1)])], .n 1, .r [(3, .callL [.agg ((cCache (TCache.mk (⟨#[]⟩ : ByteArray) (⟨#[]⟩ : ByteArray) 0 2)).map .p), .p (eL 5 cCached dCached y_3.1), .p (eL 2 cEntry dEntry ([] : List TEntry)), .agg ((cValue y_1).map .p), .p (.int .i64 6)] (.tup [.sref 0 46 5 (y_5.1).length, .sref 1 36 2 (y_5.2.1).length, .p (.int .i64 y_5.2.2)]) [(oL true 46 5 cCached dCached y_5.1), (oL true 36 2 cEntry dEntry y_5.2.1)])], .n 1, .r [(3, .callL [.agg ((cCache (TCache.mk (⟨#[]⟩ : ByteArray) (⟨#[]⟩ : ByteArray) 0 2)).map .p), .p (eL 5 cCached dCached y_5.1), .p (eL 2 cEntry dEntry ([] : List TEntry)), .agg ((cValue y_1).map .p), .p (.int .i64 7)] (.tup [.sref 0 46 5 (y_7.1).length, .sref 1 36 2 (y_7.2.1).length, .p (.int .i64 y_7.2.2)]) [(oL true 46 5 cCached dCached y_7.1), (oL true 36 2 cEntry dEntry y_7.2.1)])], .n 1, .r [(2, .dec true), (6, .dec true), (10, .dec true), (15, .dec true), (20, .dec false)]] (by kernel_rfl) (Obs.of (by kernel_rfl) (And.intro (erasureref01_Int.spec e_2) (And.intro (le_one 24 3 cValue dValue y_1) (And.intro (le_one 36 2 cEntry dEntry (TEntry.mk ([y_1]) 3)) (And.intro (And.intro (fls_cons (fle_rfl (.agg ((cCache (TCache.mk (⟨#[]⟩ : ByteArray) (⟨#[]⟩ : ByteArray) 0 2)).map .p))) (fls_cons (fle_nil 5 cCached dCached) (fls_cons (fle_rfl (.p (eL 2 cEntry dEntry ([(TEntry.mk ([y_1]) 3)])))) (fls_cons (fle_rfl (.agg ((cValue y_1).map .p))) (fls_cons (fle_rfl (.p (.int .i64 5))) fls_nil))))) (cache_Lookup.spec e_4)) (And.intro (And.intro (fls_cons (fle_rfl (.agg ((cCache (TCache.mk (⟨#[]⟩ : ByteArray) (⟨#[]⟩ : ByteArray) 0 2)).map .p))) (fls_cons (fle_rfl (.p (eL 5 cCached dCached y_3.1))) (fls_cons (fle_nil 2 cEntry dEntry) (fls_cons (fle_rfl (.agg ((cValue y_1).map .p))) (fls_cons (fle_rfl (.p (.int .i64 6))) fls_nil))))) (cache_Lookup.spec e_6)) (And.intro (And.intro (fls_cons (fle_rfl (.agg ((cCache (TCache.mk (⟨#[]⟩ : ByteArray) (⟨#[]⟩ : ByteArray) 0 2)).map .p))) (fls_cons (fle_rfl (.p (eL 5 cCached dCached y_5.1))) (fls_cons (fle_nil 2 cEntry dEntry) (fls_cons (fle_rfl (.agg ((cValue y_1).map .p))) (fls_cons (fle_rfl (.p (.int .i64 7))) fls_nil))))) (cache_Lookup.spec e_8)) (And.intro g_9 (And.intro g_10 (And.intro g_11 (And.intro g_12 (nt g_13))))))))))))
        · obtain rfl := Option.some.inj h
          exact RunC.out [.n 5, .r [(0, .call (.agg ((cValue y_1).map .p)) [])], .n 1, .r [(1, .obj (oL true 24 3 cValue dValue [y_1])), (3, .obj (oL true 36 2 cEntry dEntry [(TEntry.mk ([y_1]) 3)]))], .n 1, .r [(3, .callL [.agg ((cCache (TCache.mk (⟨#[]⟩ : ByteArray) (⟨#[]⟩ : ByteArray) 0 2)).map .p), .p (eL 5 cCached dCached ([] : List TCached)), .p (eL 2 cEntry dEntry ([(TEntry.mk ([y_1]) 3)])), .agg ((cValue y_1).map .p), .p (.int .i64 5)] (.tup [.sref 0 46 5 (y_3.1).length, .sref 1 36 2 (y_3.2.1).length, .p (.int .i64 y_3.2.2)]) [(oL true 46 5 cCached dCached y_3.1), (oL true 36 2 cEntry dEntry y_3.2.1)])], .n 1, .r [(3, .callL [.agg ((cCache (TCache.mk (⟨#[]⟩ : ByteArray) (⟨#[]⟩ : ByteArray) 0 2)).map .p), .p (eL 5 cCached dCached y_3.1), .p (eL 2 cEntry dEntry ([] : List TEntry)), .agg ((cValue y_1).map .p), .p (.int .i64 6)] (.tup [.sref 0 46 5 (y_5.1).length, .sref 1 36 2 (y_5.2.1).length, .p (.int .i64 y_5.2.2)]) [(oL true 46 5 cCached dCached y_5.1), (oL true 36 2 cEntry dEntry y_5.2.1)])], .n 1, .r [(3, .callL [.agg ((cCache (TCache.mk (⟨#[]⟩ : ByteArray) (⟨#[]⟩ : ByteArray) 0 2)).map .p), .p (eL 5 cCached dCached y_5.1), .p (eL 2 cEntry dEntry ([] : List TEntry)), .agg ((cValue y_1).map .p), .p (.int .i64 7)] (.tup [.sref 0 46 5 (y_7.1).length, .sref 1 36 2 (y_7.2.1).length, .p (.int .i64 y_7.2.2)]) [(oL true 46 5 cCached dCached y_7.1), (oL true 36 2 cEntry dEntry y_7.2.1)])], .n 1, .r [(2, .dec true), (6, .dec true), (10, .dec true), (15, .dec false)]] (by kernel_rfl) (Obs.of (by kernel_rfl) (And.intro (erasureref01_Int.spec e_2) (And.intro (le_one 24 3 cValue dValue y_1) (And.intro (le_one 36 2 cEntry dEntry (TEntry.mk ([y_1]) 3)) (And.intro (And.intro (fls_cons (fle_rfl (.agg ((cCache (TCache.mk (⟨#[]⟩ : ByteArray) (⟨#[]⟩ : ByteArray) 0 2)).map .p))) (fls_cons (fle_nil 5 cCached dCached) (fls_cons (fle_rfl (.p (eL 2 cEntry dEntry ([(TEntry.mk ([y_1]) 3)])))) (fls_cons (fle_rfl (.agg ((cValue y_1).map .p))) (fls_cons (fle_rfl (.p (.int .i64 5))) fls_nil))))) (cache_Lookup.spec e_4)) (And.intro (And.intro (fls_cons (fle_rfl (.agg ((cCache (TCache.mk (⟨#[]⟩ : ByteArray) (⟨#[]⟩ : ByteArray) 0 2)).map .p))) (fls_cons (fle_rfl (.p (eL 5 cCached dCached y_3.1))) (fls_cons (fle_nil 2 cEntry dEntry) (fls_cons (fle_rfl (.agg ((cValue y_1).map .p))) (fls_cons (fle_rfl (.p (.int .i64 6))) fls_nil))))) (cache_Lookup.spec e_6)) (And.intro (And.intro (fls_cons (fle_rfl (.agg ((cCache (TCache.mk (⟨#[]⟩ : ByteArray) (⟨#[]⟩ : ByteArray) 0 2)).map .p))) (fls_cons (fle_rfl (.p (eL 5 cCached dCached y_5.1))) (fls_cons (fle_nil 2 cEntry dEntry) (fls_cons (fle_rfl (.agg ((cValue y_1).map .p))) (fls_cons (fle_rfl (.p (.int .i64 7))) fls_nil))))) (cache_Lookup.spec e_8)) (And.intro g_9 (And.intro g_10 (And.intro g_11 (nt g_12)))))))))))
      · obtain rfl := Option.some.inj h
        exact RunC.out [.n 5, .r [(0, .call (.agg ((cValue y_1).map .p)) [])], .n 1, .r [(1, .obj (oL true 24 3 cValue dValue [y_1])), (3, .obj (oL true 36 2 cEntry dEntry [(TEntry.mk ([y_1]) 3)]))], .n 1, .r [(3, .callL [.agg ((cCache (TCache.mk (⟨#[]⟩ : ByteArray) (⟨#[]⟩ : ByteArray) 0 2)).map .p), .p (eL 5 cCached dCached ([] : List TCached)), .p (eL 2 cEntry dEntry ([(TEntry.mk ([y_1]) 3)])), .agg ((cValue y_1).map .p), .p (.int .i64 5)] (.tup [.sref 0 46 5 (y_3.1).length, .sref 1 36 2 (y_3.2.1).length, .p (.int .i64 y_3.2.2)]) [(oL true 46 5 cCached dCached y_3.1), (oL true 36 2 cEntry dEntry y_3.2.1)])], .n 1, .r [(3, .callL [.agg ((cCache (TCache.mk (⟨#[]⟩ : ByteArray) (⟨#[]⟩ : ByteArray) 0 2)).map .p), .p (eL 5 cCached dCached y_3.1), .p (eL 2 cEntry dEntry ([] : List TEntry)), .agg ((cValue y_1).map .p), .p (.int .i64 6)] (.tup [.sref 0 46 5 (y_5.1).length, .sref 1 36 2 (y_5.2.1).length, .p (.int .i64 y_5.2.2)]) [(oL true 46 5 cCached dCached y_5.1), (oL true 36 2 cEntry dEntry y_5.2.1)])], .n 1, .r [(3, .callL [.agg ((cCache (TCache.mk (⟨#[]⟩ : ByteArray) (⟨#[]⟩ : ByteArray) 0 2)).map .p), .p (eL 5 cCached dCached y_5.1), .p (eL 2 cEntry dEntry ([] : List TEntry)), .agg ((cValue y_1).map .p), .p (.int .i64 7)] (.tup [.sref 0 46 5 (y_7.1).length, .sref 1 36 2 (y_7.2.1).length, .p (.int .i64 y_7.2.2)]) [(oL true 46 5 cCached dCached y_7.1), (oL true 36 2 cEntry dEntry y_7.2.1)])], .n 1, .r [(2, .dec true), (6, .dec true), (10, .dec false)]] (by kernel_rfl) (Obs.of (by kernel_rfl) (And.intro (erasureref01_Int.spec e_2) (And.intro (le_one 24 3 cValue dValue y_1) (And.intro (le_one 36 2 cEntry dEntry (TEntry.mk ([y_1]) 3)) (And.intro (And.intro (fls_cons (fle_rfl (.agg ((cCache (TCache.mk (⟨#[]⟩ : ByteArray) (⟨#[]⟩ : ByteArray) 0 2)).map .p))) (fls_cons (fle_nil 5 cCached dCached) (fls_cons (fle_rfl (.p (eL 2 cEntry dEntry ([(TEntry.mk ([y_1]) 3)])))) (fls_cons (fle_rfl (.agg ((cValue y_1).map .p))) (fls_cons (fle_rfl (.p (.int .i64 5))) fls_nil))))) (cache_Lookup.spec e_4)) (And.intro (And.intro (fls_cons (fle_rfl (.agg ((cCache (TCache.mk (⟨#[]⟩ : ByteArray) (⟨#[]⟩ : ByteArray) 0 2)).map .p))) (fls_cons (fle_rfl (.p (eL 5 cCached dCached y_3.1))) (fls_cons (fle_nil 2 cEntry dEntry) (fls_cons (fle_rfl (.agg ((cValue y_1).map .p))) (fls_cons (fle_rfl (.p (.int .i64 6))) fls_nil))))) (cache_Lookup.spec e_6)) (And.intro (And.intro (fls_cons (fle_rfl (.agg ((cCache (TCache.mk (⟨#[]⟩ : ByteArray) (⟨#[]⟩ : ByteArray) 0 2)).map .p))) (fls_cons (fle_rfl (.p (eL 5 cCached dCached y_5.1))) (fls_cons (fle_nil 2 cEntry dEntry) (fls_cons (fle_rfl (.agg ((cValue y_1).map .p))) (fls_cons (fle_rfl (.p (.int .i64 7))) fls_nil))))) (cache_Lookup.spec e_8)) (And.intro g_9 (And.intro g_10 (nt g_11))))))))))
    · obtain rfl := Option.some.inj h
      exact RunC.out [.n 5, .r [(0, .call (.agg ((cValue y_1).map .p)) [])], .n 1, .r [(1, .obj (oL true 24 3 cValue dValue [y_1])), (3, .obj (oL true 36 2 cEntry dEntry [(TEntry.mk ([y_1]) 3)]))], .n 1, .r [(3, .callL [.agg ((cCache (TCache.mk (⟨#[]⟩ : ByteArray) (⟨#[]⟩ : ByteArray) 0 2)).map .p), .p (eL 5 cCached dCached ([] : List TCached)), .p (eL 2 cEntry dEntry ([(TEntry.mk ([y_1]) 3)])), .agg ((cValue y_1).map .p), .p (.int .i64 5)] (.tup [.sref 0 46 5 (y_3.1).length, .sref 1 36 2 (y_3.2.1).length, .p (.int .i64 y_3.2.2)]) [(oL true 46 5 cCached dCached y_3.1), (oL true 36 2 cEntry dEntry y_3.2.1)])], .n 1, .r [(3, .callL [.agg ((cCache (TCache.mk (⟨#[]⟩ : ByteArray) (⟨#[]⟩ : ByteArray) 0 2)).map .p), .p (eL 5 cCached dCached y_3.1), .p (eL 2 cEntry dEntry ([] : List TEntry)), .agg ((cValue y_1).map .p), .p (.int .i64 6)] (.tup [.sref 0 46 5 (y_5.1).length, .sref 1 36 2 (y_5.2.1).length, .p (.int .i64 y_5.2.2)]) [(oL true 46 5 cCached dCached y_5.1), (oL true 36 2 cEntry dEntry y_5.2.1)])], .n 1, .r [(3, .callL [.agg ((cCache (TCache.mk (⟨#[]⟩ : ByteArray) (⟨#[]⟩ : ByteArray) 0 2)).map .p), .p (eL 5 cCached dCached y_5.1), .p (eL 2 cEntry dEntry ([] : List TEntry)), .agg ((cValue y_1).map .p), .p (.int .i64 7)] (.tup [.sref 0 46 5 (y_7.1).length, .sref 1 36 2 (y_7.2.1).length, .p (.int .i64 y_7.2.2)]) [(oL true 46 5 cCached dCached y_7.1), (oL true 36 2 cEntry dEntry y_7.2.1)])], .n 1, .r [(2, .dec true), (6, .dec false)]] (by kernel_rfl) (Obs.of (by kernel_rfl) (And.intro (erasureref01_Int.spec e_2) (And.intro (le_one 24 3 cValue dValue y_1) (And.intro (le_one 36 2 cEntry dEntry (TEntry.mk ([y_1]) 3)) (And.intro (And.intro (fls_cons (fle_rfl (.agg ((cCache (TCache.mk (⟨#[]⟩ : ByteArray) (⟨#[]⟩ : ByteArray) 0 2)).map .p))) (fls_cons (fle_nil 5 cCached dCached) (fls_cons (fle_rfl (.p (eL 2 cEntry dEntry ([(TEntry.mk ([y_1]) 3)])))) (fls_cons (fle_rfl (.agg ((cValue y_1).map .p))) (fls_cons (fle_rfl (.p (.int .i64 5))) fls_nil))))) (cache_Lookup.spec e_4)) (And.intro (And.intro (fls_cons (fle_rfl (.agg ((cCache (TCache.mk (⟨#[]⟩ : ByteArray) (⟨#[]⟩ : ByteArray) 0 2)).map .p))) (fls_cons (fle_rfl (.p (eL 5 cCached dCached y_3.1))) (fls_cons (fle_nil 2 cEntry dEntry) (fls_cons (fle_rfl (.agg ((cValue y_1).map .p))) (fls_cons (fle_rfl (.p (.int .i64 6))) fls_nil))))) (cache_Lookup.spec e_6)) (And.intro (And.intro (fls_cons (fle_rfl (.agg ((cCache (TCache.mk (⟨#[]⟩ : ByteArray) (⟨#[]⟩ : ByteArray) 0 2)).map .p))) (fls_cons (fle_rfl (.p (eL 5 cCached dCached y_5.1))) (fls_cons (fle_nil 2 cEntry dEntry) (fls_cons (fle_rfl (.agg ((cValue y_1).map .p))) (fls_cons (fle_rfl (.p (.int .i64 7))) fls_nil))))) (cache_Lookup.spec e_8)) (And.intro g_9 (nt g_10)))))))))
  · obtain rfl := Option.some.inj h
    exact RunC.out [.n 5, .r [(0, .call (.agg ((cValue y_1).map .p)) [])], .n 1, .r [(1, .obj (oL true 24 3 cValue dValue [y_1])), (3, .obj (oL true 36 2 cEntry dEntry [(TEntry.mk ([y_1]) 3)]))], .n 1, .r [(3, .callL [.agg ((cCache (TCache.mk (⟨#[]⟩ : ByteArray) (⟨#[]⟩ : ByteArray) 0 2)).map .p), .p (eL 5 cCached dCached ([] : List TCached)), .p (eL 2 cEntry dEntry ([(TEntry.mk ([y_1]) 3)])), .agg ((cValue y_1).map .p), .p (.int .i64 5)] (.tup [.sref 0 46 5 (y_3.1).length, .sref 1 36 2 (y_3.2.1).length, .p (.int .i64 y_3.2.2)]) [(oL true 46 5 cCached dCached y_3.1), (oL true 36 2 cEntry dEntry y_3.2.1)])], .n 1, .r [(3, .callL [.agg ((cCache (TCache.mk (⟨#[]⟩ : ByteArray) (⟨#[]⟩ : ByteArray) 0 2)).map .p), .p (eL 5 cCached dCached y_3.1), .p (eL 2 cEntry dEntry ([] : List TEntry)), .agg ((cValue y_1).map .p), .p (.int .i64 6)] (.tup [.sref 0 46 5 (y_5.1).length, .sref 1 36 2 (y_5.2.1).length, .p (.int .i64 y_5.2.2)]) [(oL true 46 5 cCached dCached y_5.1), (oL true 36 2 cEntry dEntry y_5.2.1)])], .n 1, .r [(3, .callL [.agg ((cCache (TCache.mk (⟨#[]⟩ : ByteArray) (⟨#[]⟩ : ByteArray) 0 2)).map .p), .p (eL 5 cCached dCached y_5.1), .p (eL 2 cEntry dEntry ([] : List TEntry)), .agg ((cValue y_1).map .p), .p (.int .i64 7)] (.tup [.sref 0 46 5 (y_7.1).length, .sref 1 36 2 (y_7.2.1).length, .p (.int .i64 y_7.2.2)]) [(oL true 46 5 cCached dCached y_7.1), (oL true 36 2 cEntry dEntry y_7.2.1)])], .n 1, .r [(2, .dec false)]] (by kernel_rfl) (Obs.of (by kernel_rfl) (And.intro (erasureref01_Int.spec e_2) (And.intro (le_one 24 3 cValue dValue y_1) (And.intro (le_one 36 2 cEntry dEntry (TEntry.mk ([y_1]) 3)) (And.intro (And.intro (fls_cons (fle_rfl (.agg ((cCache (TCache.mk (⟨#[]⟩ : ByteArray) (⟨#[]⟩ : ByteArray) 0 2)).map .p))) (fls_cons (fle_nil 5 cCached dCached) (fls_cons (fle_rfl (.p (eL 2 cEntry dEntry ([(TEntry.mk ([y_1]) 3)])))) (fls_cons (fle_rfl (.agg ((cValue y_1).map .p))) (fls_cons (fle_rfl (.p (.int .i64 5))) fls_nil))))) (cache_Lookup.spec e_4)) (And.intro (And.intro (fls_cons (fle_rfl (.agg ((cCache (TCache.mk (⟨#[]⟩ : ByteArray) (⟨#[]⟩ : ByteArray) 0 2)).map .p))) (fls_cons (fle_rfl (.p (eL 5 cCached dCached y_3.1))) (fls_cons (fle_nil 2 cEntry dEntry) (fls_cons (fle_rfl (.agg ((cValue y_1).map .p))) (fls_cons (fle_rfl (.p (.int .i64 6))) fls_nil))))) (cache_Lookup.spec e_6)) (And.intro (And.intro (fls_cons (fle_rfl (.agg ((cCache (TCache.mk (⟨#[]⟩ : ByteArray) (⟨#[]⟩ : ByteArray) 0 2)).map .p))) (fls_cons (fle_rfl (.p (eL 5 cCached dCached y_5.1))) (fls_cons (fle_nil 2 cEntry dEntry) (fls_cons (fle_rfl (.agg ((cValue y_1).map .p))) (fls_cons (fle_rfl (.p (.int .i64 7))) fls_nil))))) (cache_Lookup.spec e_8)) (nt g_9))))))))
theorem erasurelaw30_awake.mono   : ∀ (k k' : Nat)  (r : Bool), k ≤ k' → erasurelaw30_awake k  = some r → erasurelaw30_awake k'  = some r := by
  intro k k'  r hk h
  unfold erasurelaw30_awake at h ⊢
  obtain ⟨y_1, e_2, h⟩ := bind_or h
  refine bnd (erasureref01_Int.mono _ _ _ _ hk e_2) ?_
  obtain ⟨y_3, e_4, h⟩ := bind_or h
  refine bnd (cache_Lookup.mono _ _ _ _ _ _ _ _ hk e_4) ?_
  obtain ⟨y_5, e_6, h⟩ := bind_or h
  refine bnd (cache_Lookup.mono _ _ _ _ _ _ _ _ hk e_6) ?_
  obtain ⟨y_7, e_8, h⟩ := bind_or h
  refine bnd (cache_Lookup.mono _ _ _ _ _ _ _ _ hk e_8) ?_
  rcases ite_or h with ⟨g_9, h⟩ | ⟨g_9, h⟩
  · refine itp g_9 ?_
    rcases ite_or h with ⟨g_10, h⟩ | ⟨g_10, h⟩
    · refine itp g_10 ?_
      rcases ite_or h with ⟨g_11, h⟩ | ⟨g_11, h⟩
      · refine itp g_11 ?_
        rcases ite_or h with ⟨g_12, h⟩ | ⟨g_12, h⟩
        · refine itp g_12 ?_
          rcases ite_or h with ⟨g_13, h⟩ | ⟨g_13, h⟩
          · refine itp g_13 ?_
            exact h
          · refine itn g_13 ?_
            exact h
        · refine itn g_12 ?_
          exact h
      · refine itn g_11 ?_
        exact h
    · refine itn g_10 ?_
      exact h
  · refine itn g_9 ?_
    exact h
theorem erasurelaw30_awake.spec {k : Nat}  {r : Bool} (h : erasurelaw30_awake k  = some r) : Spec Try.prog 12 [] (.p (.bool r)) [] :=
  spec_of mix Try.func12 (body := bodyOf Try.f12) (by kernel_rfl) (by kernel_rfl) (erasurelaw30_awake.run h)
end Go.Proofs.YtjhnpaenhdbhpabV
set_option linter.unusedVariables false
set_option linter.unusedSimpArgs false
set_option maxRecDepth 100000
namespace Go.Proofs.YtjhnpaenhdbhpabV
open Go Go.RowKit
noncomputable def erasurelaw30_CacheBounds.p3  : Nat → Int → Int → (List TCached) → (List TCached) → Option Bool
  | 0, _, _, _, _ => none
  | k + 1, old13, i18, s6, t15 => if (decide (i18 < ((t15).length : Int))) = true then (if 0 ≤ i18 ∧ i18 < ((t15).length : Int) then (if 0 ≤ old13 ∧ old13 < ((s6).length : Int) then (if (((t15.getD i18.toNat dCached).f0.f0 == (s6.getD old13.toNat dCached).f0.f0) && (((t15.getD i18.toNat dCached).f0.f1 == (s6.getD old13.toNat dCached).f0.f1) && ((((t15.getD i18.toNat dCached).f0.f2).data.toList == ((s6.getD old13.toNat dCached).f0.f2).data.toList) && true))) = true then (some false) else (erasurelaw30_CacheBounds.p3 k old13 (IntKind.i64.wrap (i18 + 1)) s6 t15)) else none) else none) else ((erasurelaw30_awake k ).bind fun y_29 => (some y_29))
noncomputable def erasurelaw30_CacheBounds.p2  : Nat → Int → Int → Int → TCache → (List TCached) → Option Bool
  | 0, _, _, _, _, _ => none
  | k + 1, n0, old13, i14, c5b, s6 => if (decide (i14 < ((s6).length : Int))) = true then (if 0 ≤ i14 ∧ i14 < ((s6).length : Int) then (if 0 ≤ old13 ∧ old13 < ((s6).length : Int) then (if (decide ((s6.getD i14.toNat dCached).f2 < (s6.getD old13.toNat dCached).f2)) = true then (erasurelaw30_CacheBounds.p2 k n0 i14 (IntKind.i64.wrap (i14 + 1)) c5b s6) else (erasurelaw30_CacheBounds.p2 k n0 old13 (IntKind.i64.wrap (i14 + 1)) c5b s6)) else none) else none) else ((erasureref01_Int k (IntKind.i64.wrap (100 + (Go.bits .and .i64 n0 7)))).bind fun y_19 => ((cache_Lookup k c5b s6 ([] : List TEntry) y_19 41).bind fun y_21 => (if (y_21.2.2 != 0) = true then (some false) else (if (((y_21.1).length : Int) != 16) = true then (some false) else (erasurelaw30_CacheBounds.p3 k old13 0 s6 y_21.1)))))
noncomputable def erasurelaw30_CacheBounds.p1  : Nat → Int → (List Int) → Int → Int → TCache → (List TCached) → Option Bool
  | 0, _, _, _, _, _, _ => none
  | k + 1, n0, order1, last7, i8, c5b, s6 => if (decide (i8 < 16)) = true then (if (decide (i8 < ((order1).length : Int))) = true then (if 0 ≤ i8 ∧ i8 < ((order1).length : Int) then ((erasureref01_Int k i8).bind fun y_4 => ((cache_Lookup k c5b s6 ([] : List TEntry) y_4 (if last7 > (IntKind.i64.wrap ((IntKind.u64.wrap (order1.getD i8.toNat (0 : Int))).tmod 40)) then last7 else (IntKind.i64.wrap ((IntKind.u64.wrap (order1.getD i8.toNat (0 : Int))).tmod 40)))).bind fun y_6 => (if (y_6.2.2 != 0) = true then (some false) else (erasurelaw30_CacheBounds.p1 k n0 order1 (if last7 > (IntKind.i64.wrap ((IntKind.u64.wrap (order1.getD i8.toNat (0 : Int))).tmod 40)) then last7 else (IntKind.i64.wrap ((IntKind.u64.wrap (order1.getD i8.toNat (0 : Int))).tmod 40))) (IntKind.i64.wrap (i8 + 1)) c5b y_6.1)))) else none) else ((erasureref01_Int k i8).bind fun y_9 => ((cache_Lookup k c5b s6 ([] : List TEntry) y_9 (if last7 > i8 then last7 else i8)).bind fun y_11 => (if (y_11.2.2 != 0) = true then (some false) else (erasurelaw30_CacheBounds.p1 k n0 order1 (if last7 > i8 then last7 else i8) (IntKind.i64.wrap (i8 + 1)) c5b y_11.1))))) else (if (((s6).length : Int) != 16) = true then (some false) else (erasurelaw30_CacheBounds.p2 k n0 0 1 c5b s6))
noncomputable def erasurelaw30_CacheBounds  (k : Nat) (n0 : Int) (order1 : (List Int)) : Option Bool := erasurelaw30_CacheBounds.p1 k n0 order1 0 0 (TCache.mk (⟨#[]⟩ : ByteArray) (⟨#[]⟩ : ByteArray) 0 1000) ([] : List TCached)
noncomputable def erasurelaw30_CacheBounds.t : List Item := [.code (bodyOf Try.f5)]
noncomputable def erasurelaw30_CacheBounds.s (n0 : Int) (order1 : (List Int)) : St := ⟨frOf Try.f5.ntmps 0 [(0, .p (.int .i64 n0)), (1, .p (eL 1 (cI .i64) (0 : Int) order1))], []⟩
noncomputable def erasurelaw30_CacheBounds.p1.t : List Item := nav 13 [] erasurelaw30_CacheBounds.t
noncomputable def erasurelaw30_CacheBounds.p1.s (n0 : Int) (order1 : (List Int)) (last7 : Int) (i8 : Int) (c5b : TCache) (s6 : (List TCached)) : St := ⟨frOf Try.f5.ntmps 0 [(0, .p (.int .i64 n0)), (1, .p (eL 1 (cI .i64) (0 : Int) order1)), (5, .ptr 0 0 0), (6, .sref 1 46 5 (s6).length), (7, .p (.int .i64 last7)), (8, .p (.int .i64 i8))], [.box ((cCache c5b).map .p), (oL true 46 5 cCached dCached s6)]⟩
noncomputable def erasurelaw30_CacheBounds.p2.t : List Item := nav 17 [false, false] erasurelaw30_CacheBounds.p1.t
noncomputable def erasurelaw30_CacheBounds.p2.s (n0 : Int) (old13 : Int) (i14 : Int) (c5b : TCache) (s6 : (List TCached)) : St := ⟨frOf Try.f5.ntmps 0 [(0, .p (.int .i64 n0)), (5, .ptr 0 0 0), (6, .sref 1 46 5 (s6).length), (13, .p (.int .i64 old13)), (14, .p (.int .i64 i14))], [.box ((cCache c5b).map .p), (oL true 46 5 cCached dCached s6)]⟩
noncomputable def erasurelaw30_CacheBounds.p3.t : List Item := nav 17 [false, false] erasurelaw30_CacheBounds.p2.t
noncomputable def erasurelaw30_CacheBounds.p3.s (old13 : Int) (i18 : Int) (s6 : (List TCached)) (t15 : (List TCached)) : St := ⟨frOf Try.f5.ntmps 0 [(6, .sref 0 46 5 (s6).length), (13, .p (.int .i64 old13)), (15, .sref 1 46 5 (t15).length), (18, .p (.int .i64 i18))], [(oL false 46 5 cCached dCached s6), (oL true 46 5 cCached dCached t15)]⟩
theorem erasurelaw30_CacheBounds.p3.run   : ∀ (k : Nat) (old13 : Int) (i18 : Int) (s6 : (List TCached)) (t15 : (List TCached)) (r : Bool), erasurelaw30_CacheBounds.p3 k old13 i18 s6 t15 = some r → RunC Try.prog Try.f5 erasurelaw30_CacheBounds.p3.t (erasurelaw30_CacheBounds.p3.s old13 i18 s6 t15) (.p (.bool r)) [] := by
  intro k
  induction k with
  | zero => intro old13 i18 s6 t15 r h; simp [erasurelaw30_CacheBounds.p3] at h
  | succ k ih =>
    intro old13 i18 s6 t15 r h
    rw [erasurelaw30_CacheBounds.p3] at h
    rcases ite_or h with ⟨g_25, h⟩ | ⟨g_25, h⟩
    · obtain ⟨g_26, h⟩ := ite_some h
      obtain ⟨g_27, h⟩ := ite_some h
      rcases ite_or h with ⟨g_28, h⟩ | ⟨g_28, h⟩
      · obtain rfl := Option.some.inj h
        exact RunC.out [.n 2, .r [(3, .dec true)], .n 5, .r [(10, .dec true)], .n 3] (by kernel_rfl) (Obs.of (by kernel_rfl) (And.intro g_25 (And.intro g_26 (And.intro g_27 g_28))))
      · exact RunC.go [.n 2, .r [(3, .dec true)], .n 5, .r [(10, .dec false)], .n 5, .k [6, 13, 15, 18]] (by kernel_rfl) (Obs.of (by kernel_rfl) (And.intro g_25 (And.intro g_26 (And.intro g_27 (nt g_28))))) (ih _ _ _ _ r h)
    · obtain ⟨y_29, e_30, h⟩ := bind_or h
      obtain rfl := Option.some.inj h
      exact RunC.out [.n 2, .r [(3, .dec false)], .n 3, .r [(0, .call (.p (.bool y_29)) [])]] (by kernel_rfl) (Obs.of (by kernel_rfl) (And.intro (nt g_25) (erasurelaw30_awake.spec e_30)))
theorem erasurelaw30_CacheBounds.p2.run   : ∀ (k : Nat) (n0 : Int) (old13 : Int) (i14 : Int) (c5b : TCache) (s6 : (List TCached)) (r : Bool), erasurelaw30_CacheBounds.p2 k n0 old13 i14 c5b s6 = some r → RunC Try.prog Try.f5 erasurelaw30_CacheBounds.p2.t (erasurelaw30_CacheBounds.p2.s n0 old13 i14 c5b s6) (.p (.bool r)) [] := by
  intro k
  induction k with
  | zero => intro n0 old13 i14 c5b s6 r h; simp [erasurelaw30_CacheBounds.p2] at h
  | succ k ih =>
    intro n0 old13 i14 c5b s6 r h
    rw [erasurelaw30_CacheBounds.p2] at h
    rcases ite_or h with ⟨g_15, h⟩ | ⟨g_15, h⟩
    · obtain ⟨g_16, h⟩ := ite_some h
      obtain ⟨g_17, h⟩ := ite_some h
      rcases ite_or h with ⟨g_18, h⟩ | ⟨g_18, h⟩
      · exact RunC.go [.n 2, .r [(3, .dec true)], .n 5, .r [(10, .dec true)], .n 5, .k [0, 5, 6, 13, 14]] (by kernel_rfl) (Obs.of (by kernel_rfl) (And.intro g_15 (And.intro g_16 (And.intro g_17 g_18)))) (ih _ _ _ _ _ r h)
      · exact RunC.go [.n 2, .r [(3, .dec true)], .n 5, .r [(10, .dec false)], .n 5, .k [0, 5, 6, 13, 14]] (by kernel_rfl) (Obs.of (by kernel_rfl) (And.intro g_15 (And.intro g_16 (And.intro g_17 (nt g_18))))) (ih _ _ _ _ _ r h)
    · obtain ⟨y_19, e_20, h⟩ := bind_or h
      obtain ⟨y_21, e_22, h⟩ := bind_or h
      rcases ite_or h with ⟨g_23, h⟩ | ⟨g_23, h⟩
      · obtain rfl := Option.some.inj h
        exact RunC.out [.n 2, .r [(3, .dec false)], .n 3, .r [(5, .call (.agg ((cValue y_19).map .p)) []), (6, .callL [.agg ((cCache c5b).map .p), .p (eL 5 cCached dCached s6), .p (eL 2 cEntry dEntry ([] : List TEntry)), .agg ((cValue y_19).map .p), .p (.int .i64 41)] (.tup [.sref 0 46 5 (y_21.1).length, .sref 1 36 2 (y_21.2.1).length, .p (.int .i64 y_21.2.2)]) [(oL true 46 5 cCached dCached y_21.1), (oL true 36 2 cEntry dEntry y_21.2.1)])], .n 2, .r [(2, .dec true)], .n 3] (by kernel_rfl) (Obs.of (by kernel_rfl) (And.intro (nt g_15) (And.intro (erasureref01_Int.spec e_20) (And.intro (And.intro (fls_cons (fle_rfl (.agg ((cCache c5b).map .p))) (fls_cons (fle_rfl (.p (eL 5 cCached dCached s6))) (fls_cons (fle_nil 2 cEntry dEntry) (fls_cons (fle_rfl (.agg ((cValue y_19).map .p))) (fls_cons (fle_rfl (.p (.int .i64 41))) fls_nil))))) (cache_Lookup.spec e_22)) g_23))))
      · rcases ite_or h with ⟨g_24, h⟩ | ⟨g_24, h⟩
        · obtain rfl := Option.some.inj h
          exact RunC.out [.n 2, .r [(3, .dec false)], .n 3, .r [(5, .call (.agg ((cValue y_19).map .p)) []), (6, .callL [.agg ((cCache c5b).map .p), .p (eL 5 cCached dCached s6), .p (eL 2 cEntry dEntry ([] : List TEntry)), .agg ((cValue y_19).map .p), .p (.int .i64 41)] (.tup [.sref 0 46 5 (y_21.1).length, .sref 1 36 2 (y_21.2.1).length, .p (.int .i64 y_21.2.2)]) [(oL true 46 5 cCached dCached y_21.1), (oL true 36 2 cEntry dEntry y_21.2.1)])], .n 2, .r [(2, .dec false), (6, .dec true)], .n 3] (by kernel_rfl) (Obs.of (by kernel_rfl) (And.intro (nt g_15) (And.intro (erasureref01_Int.spec e_20) (And.intro (And.intro (fls_cons (fle_rfl (.agg ((cCache c5b).map .p))) (fls_cons (fle_rfl (.p (eL 5 cCached dCached s6))) (fls_cons (fle_nil 2 cEntry dEntry) (fls_cons (fle_rfl (.agg ((cValue y_19).map .p))) (fls_cons (fle_rfl (.p (.int .i64 41))) fls_nil))))) (cache_Lookup.spec e_22)) (And.intro (nt g_23) g_24)))))
        · exact RunC.go [.n 2, .r [(3, .dec false)], .n 3, .r [(5, .call (.agg ((cValue y_19).map .p)) []), (6, .callL [.agg ((cCache c5b).map .p), .p (eL 5 cCached dCached s6), .p (eL 2 cEntry dEntry ([] : List TEntry)), .agg ((cValue y_19).map .p), .p (.int .i64 41)] (.tup [.sref 0 46 5 (y_21.1).length, .sref 1 36 2 (y_21.2.1).length, .p (.int .i64 y_21.2.2)]) [(oL true 46 5 cCached dCached y_21.1), (oL true 36 2 cEntry dEntry y_21.2.1)])], .n 2, .r [(2, .dec false), (6, .dec false)], .n 7, .k [6, 13, 15, 18]] (by kernel_rfl) (Obs.of (by kernel_rfl) (And.intro (nt g_15) (And.intro (erasureref01_Int.spec e_20) (And.intro (And.intro (fls_cons (fle_rfl (.agg ((cCache c5b).map .p))) (fls_cons (fle_rfl (.p (eL 5 cCached dCached s6))) (fls_cons (fle_nil 2 cEntry dEntry) (fls_cons (fle_rfl (.agg ((cValue y_19).map .p))) (fls_cons (fle_rfl (.p (.int .i64 41))) fls_nil))))) (cache_Lookup.spec e_22)) (And.intro (nt g_23) (nt g_24)))))) (erasurelaw30_CacheBounds.p3.run k _ _ _ _ r h)
theorem erasurelaw30_CacheBounds.p1.run   : ∀ (k : Nat) (n0 : Int) (order1 : (List Int)) (last7 : Int) (i8 : Int) (c5b : TCache) (s6 : (List TCached)) (r : Bool), erasurelaw30_CacheBounds.p1 k n0 order1 last7 i8 c5b s6 = some r → RunC Try.prog Try.f5 erasurelaw30_CacheBounds.p1.t (erasurelaw30_CacheBounds.p1.s n0 order1 last7 i8 c5b s6) (.p (.bool r)) [] := by
  intro k
  induction k with
  | zero => intro n0 order1 last7 i8 c5b s6 r h; simp [erasurelaw30_CacheBounds.p1] at h
  | succ k ih =>
    intro n0 order1 last7 i8 c5b s6 r h
    rw [erasurelaw30_CacheBounds.p1] at h
    rcases ite_or h with ⟨g_1, h⟩ | ⟨g_1, h⟩
    · rcases ite_or h with ⟨g_2, h⟩ | ⟨g_2, h⟩
      · obtain ⟨g_3, h⟩ := ite_some h
        obtain ⟨y_4, e_5, h⟩ := bind_or h
        obtain ⟨y_6, e_7, h⟩ := bind_or h
        rcases ite_or h with ⟨g_8, h⟩ | ⟨g_8, h⟩
        · obtain rfl := Option.some.inj h
          exact RunC.out [.n 2, .r [(1, .dec true)], .n 8, .r [(3, .dec true)], .n 7, .r [(3, .call (.agg ((cValue y_4).map .p)) []), (5, .callL [.agg ((cCache c5b).map .p), .p (eL 5 cCached dCached s6), .p (eL 2 cEntry dEntry ([] : List TEntry)), .agg ((cValue y_4).map .p), .p (.int .i64 (if last7 > (IntKind.i64.wrap ((IntKind.u64.wrap (order1.getD i8.toNat (0 : Int))).tmod 40)) then last7 else (IntKind.i64.wrap ((IntKind.u64.wrap (order1.getD i8.toNat (0 : Int))).tmod 40))))] (.tup [.sref 0 46 5 (y_6.1).length, .sref 1 36 2 (y_6.2.1).length, .p (.int .i64 y_6.2.2)]) [(oL true 46 5 cCached dCached y_6.1), (oL true 36 2 cEntry dEntry y_6.2.1)])], .n 2, .r [(1, .dec true)], .n 3] (by kernel_rfl) (Obs.of (by kernel_rfl) (And.intro g_1 (And.intro g_2 (And.intro g_3 (And.intro (show (40 : Int) ≠ 0 from (by decide)) (And.intro (erasureref01_Int.spec e_5) (And.intro (And.intro (fls_cons (fle_rfl (.agg ((cCache c5b).map .p))) (fls_cons (fle_rfl (.p (eL 5 cCached dCached s6))) (fls_cons (fle_nil 2 cEntry dEntry) (fls_cons (fle_rfl (.agg ((cValue y_4).map .p))) (fls_cons (fle_rfl (.p (.int .i64 (if last7 > (IntKind.i64.wrap ((IntKind.u64.wrap (order1.getD i8.toNat (0 : Int))).tmod 40)) then last7 else (IntKind.i64.wrap ((IntKind.u64.wrap (order1.getD i8.toNat (0 : Int))).tmod 40)))))) fls_nil))))) (cache_Lookup.spec e_7)) g_8)))))))
        · exact RunC.go [.n 2, .r [(1, .dec true)], .n 8, .r [(3, .dec true)], .n 7, .r [(3, .call (.agg ((cValue y_4).map .p)) []), (5, .callL [.agg ((cCache c5b).map .p), .p (eL 5 cCached dCached s6), .p (eL 2 cEntry dEntry ([] : List TEntry)), .agg ((cValue y_4).map .p), .p (.int .i64 (if last7 > (IntKind.i64.wrap ((IntKind.u64.wrap (order1.getD i8.toNat (0 : Int))).tmod 40)) then last7 else (IntKind.i64.wrap ((IntKind.u64.wrap (order1.getD i8.toNat (0 : Int))).tmod 40))))] (.tup [.sref 0 46 5 (y_6.1).length, .sref 1 36 2 (y_6.2.1).length, .p (.int .i64 y_6.2.2)]) [(oL true 46 5 cCached dCached y_6.1), (oL true 36 2 cEntry dEntry y_6.2.1)])], .n 2, .r [(1, .dec false)], .n 6, .k [0, 1, 5, 6, 7, 8]] (by kernel_rfl) (Obs.of (by kernel_rfl) (And.intro g_1 (And.intro g_2 (And.intro g_3 (And.intro (show (40 : Int) ≠ 0 from (by decide)) (And.intro (erasureref01_Int.spec e_5) (And.intro (And.intro (fls_cons (fle_rfl (.agg ((cCache c5b).map .p))) (fls_cons (fle_rfl (.p (eL 5 cCached dCached s6))) (fls_cons (fle_nil 2 cEntry dEntry) (fls_cons (fle_rfl (.agg ((cValue y_4).map .p))) (fls_cons (fle_rfl (.p (.int .i64 (if last7 > (IntKind.i64.wrap ((IntKind.u64.wrap (order1.getD i8.toNat (0 : Int))).tmod 40)) then last7 else (IntKind.i64.wrap ((IntKind.u64.wrap (order1.getD i8.toNat (0 : Int))).tmod 40)))))) fls_nil))))) (cache_Lookup.spec e_7)) (nt g_8)))))))) (ih _ _ _ _ _ _ r h)
      · obtain ⟨y_9, e_10, h⟩ := bind_or h
        obtain ⟨y_11, e_12, h⟩ := bind_or h
        rcases ite_or h with ⟨g_13, h⟩ | ⟨g_13, h⟩
        · obtain rfl := Option.some.inj h
          exact RunC.out [.n 2, .r [(1, .dec true)], .n 8, .r [(3, .dec false)], .n 7, .r [(3, .call (.agg ((cValue y_9).map .p)) []), (5, .callL [.agg ((cCache c5b).map .p), .p (eL 5 cCached dCached s6), .p (eL 2 cEntry dEntry ([] : List TEntry)), .agg ((cValue y_9).map .p), .p (.int .i64 (if last7 > i8 then last7 else i8))] (.tup [.sref 0 46 5 (y_11.1).length, .sref 1 36 2 (y_11.2.1).length, .p (.int .i64 y_11.2.2)]) [(oL true 46 5 cCached dCached y_11.1), (oL true 36 2 cEntry dEntry y_11.2.1)])], .n 2, .r [(1, .dec true)], .n 3] (by kernel_rfl) (Obs.of (by kernel_rfl) (And.intro g_1 (And.intro (nt g_2) (And.intro (erasureref01_Int.spec e_10) (And.intro (And.intro (fls_cons (fle_rfl (.agg ((cCache c5b).map .p))) (fls_cons (fle_rfl (.p (eL 5 cCached dCached s6))) (fls_cons (fle_nil 2 cEntry dEntry) (fls_cons (fle_rfl (.agg ((cValue y_9).map .p))) (fls_cons (fle_rfl (.p (.int .i64 (if last7 > i8 then last7 else i8)))) fls_nil))))) (cache_Lookup.spec e_12)) g_13)))))
        · exact RunC.go [.n 2, .r [(1, .dec true)], .n 8, .r [(3, .dec false)], .n 7, .r [(3, .call (.agg ((cValue y_9).map .p)) []), (5, .callL [.agg ((cCache c5b).map .p), .p (eL 5 cCached dCached s6), .p (eL 2 cEntry dEntry ([] : List TEntry)), .agg ((cValue y_9).map .p), .p (.int .i64 (if last7 > i8 then last7 else i8))] (.tup [.sref 0 46 5 (y_11.1).length, .sref 1 36 2 (y_11.2.1).length, .p (.int .i64 y_11.2.2)]) [(oL true 46 5 cCached dCached y_11.1), (oL true 36 2 cEntry dEntry y_11.2.1)])], .n 2, .r [(1, .dec false)], .n 6, .k [0, 1, 5, 6, 7, 8]] (by kernel_rfl) (Obs.of (by kernel_rfl) (And.intro g_1 (And.intro (nt g_2) (And.intro (erasureref01_Int.spec e_10) (And.intro (And.intro (fls_cons (fle_rfl (.agg ((cCache c5b).map .p))) (fls_cons (fle_rfl (.p (eL 5 cCached dCached s6))) (fls_cons (fle_nil 2 cEntry dEntry) (fls_cons (fle_rfl (.agg ((cValue y_9).map .p))) (fls_cons (fle_rfl (.p (.int .i64 (if last7 > i8 then last7 else i8)))) fls_nil))))) (cache_Lookup.spec e_12)) (nt g_13)))))) (ih _ _ _ _ _ _ r h)
    · rcases ite_or h with ⟨g_14, h⟩ | ⟨g_14, h⟩
      · obtain rfl := Option.some.inj h
        exact RunC.out [.n 2, .r [(1, .dec false)], .n 4, .r [(2, .dec true)], .n 3] (by kernel_rfl) (Obs.of (by kernel_rfl) (And.intro (nt g_1) g_14))
      · exact RunC.go [.n 2, .r [(1, .dec false)], .n 4, .r [(2, .dec false)], .n 9, .k [0, 5, 6, 13, 14]] (by kernel_rfl) (Obs.of (by kernel_rfl) (And.intro (nt g_1) (nt g_14))) (erasurelaw30_CacheBounds.p2.run k _ _ _ _ _ r h)
theorem erasurelaw30_CacheBounds.run   {k : Nat} {n0 : Int} {order1 : (List Int)} {r : Bool} (h : erasurelaw30_CacheBounds k n0 order1 = some r) : RunC Try.prog Try.f5 erasurelaw30_CacheBounds.t (erasurelaw30_CacheBounds.s n0 order1) (.p (.bool r)) [] := by
  unfold erasurelaw30_CacheBounds at h
  exact RunC.go [.n 5, .r [(0, .obj (oL true 46 5 cCached dCached ([] : List TCached)))], .n 7, .k [0, 1, 5, 6, 7, 8]] (by kernel_rfl) (Obs.of (by kernel_rfl) (le_nil 46 5 cCached dCached)) (erasurelaw30_CacheBounds.p1.run k _ _ _ _ _ _ r h)
theorem erasurelaw30_CacheBounds.p3.mono   : ∀ (k k' : Nat) (old13 : Int) (i18 : Int) (s6 : (List TCached)) (t15 : (List TCached)) (r : Bool), k ≤ k' → erasurelaw30_CacheBounds.p3 k old13 i18 s6 t15 = some r → erasurelaw30_CacheBounds.p3 k' old13 i18 s6 t15 = some r := by
  intro k
  induction k with
  | zero => intro k' old13 i18 s6 t15 r hk h; simp [erasurelaw30_CacheBounds.p3] at h
  | succ k ih =>
    intro k' old13 i18 s6 t15 r hk h
    obtain ⟨k', rfl⟩ : ∃ m, k' = m + 1 := ⟨k' - 1, by omega⟩
    replace hk := Nat.le_of_succ_le_succ hk
    rw [erasurelaw30_CacheBounds.p3] at h ⊢
    rcases ite_or h with ⟨g_25, h⟩ | ⟨g_25, h⟩
    · refine itp g_25 ?_
      obtain ⟨g_26, h⟩ := ite_some h
      refine itp g_26 ?_
      obtain ⟨g_27, h⟩ := ite_some h
      refine itp g_27 ?_
      rcases ite_or h with ⟨g_28, h⟩ | ⟨g_28, h⟩
      · refine itp g_28 ?_
        exact h
      · refine itn g_28 ?_
        exact ih _ _ _ _ _ r hk h
    · refine itn g_25 ?_
      obtain ⟨y_29, e_30, h⟩ := bind_or h
      refine bnd (erasurelaw30_awake.mono _ _  _ hk e_30) ?_
      exact h
theorem erasurelaw30_CacheBounds.p2.mono   : ∀ (k k' : Nat) (n0 : Int) (old13 : Int) (i14 : Int) (c5b : TCache) (s6 : (List TCached)) (r : Bool), k ≤ k' → erasurelaw30_CacheBounds.p2 k n0 old13 i14 c5b s6 = some r → erasurelaw30_CacheBounds.p2 k' n0 old13 i14 c5b s6 = some r := by
  intro k
  induction k with
  | zero => intro k' n0 old13 i14 c5b s6 r hk h; simp [erasurelaw30_CacheBounds.p2] at h
  | succ k ih =>
    intro k' n0 old13 i14 c5b s6 r hk h
    obtain ⟨k', rfl⟩ : ∃ m, k' = m + 1 := ⟨k' - 1, by omega⟩
    replace hk := Nat.le_of_succ_le_succ hk
    rw [erasurelaw30_CacheBounds.p2] at h ⊢
    rcases ite_or h with ⟨g_15, h⟩ | ⟨g_15, h⟩
    · refine itp g_15 ?_
      obtain ⟨g_16, h⟩ := ite_some h
      refine itp g_16 ?_
      obtain ⟨g_17, h⟩ := ite_some h
      refine itp g_17 ?_
      rcases ite_or h with ⟨g_18, h⟩ | ⟨g_18, h⟩
      · refine itp g_18 ?_
        exact ih _ _ _ _ _ _ r hk h
      · refine itn g_18 ?_
        exact ih _ _ _ _ _ _ r hk h
    · refine itn g_15 ?_
      obtain ⟨y_19, e_20, h⟩ := bind_or h
      refine bnd (erasureref01_Int.mono _ _ _ _ hk e_20) ?_
      obtain ⟨y_21, e_22, h⟩ := bind_or h
      refine bnd (cache_Lookup.mono _ _ _ _ _ _ _ _ hk e_22) ?_
      rcases ite_or h with ⟨g_23, h⟩ | ⟨g_23, h⟩
      · refine itp g_23 ?_
        exact h
      · refine itn g_23 ?_
        rcases ite_or h with ⟨g_24, h⟩ | ⟨g_24, h⟩
        · refine itp g_24 ?_
          exact h
        · refine itn g_24 ?_
          exact erasurelaw30_CacheBounds.p3.mono _ _ _ _ _ _ r hk h
theorem erasurelaw30_CacheBounds.p1.mono   : ∀ (k k' : Nat) (n0 : Int) (order1 : (List Int)) (last7 : Int) (i8 : Int) (c5b : TCache) (s6 : (List TCached)) (r : Bool), k ≤ k' → erasurelaw30_CacheBounds.p1 k n0 order1 last7 i8 c5b s6 = some r → erasurelaw30_CacheBounds.p1 k' n0 order1 last7 i8 c5b s6 = some r := by
  intro k
  induction k with
  | zero => intro k' n0 order1 last7 i8 c5b s6 r hk h; simp [erasurelaw30_CacheBounds.p1] at h
  | succ k ih =>
    intro k' n0 order1 last7 i8 c5b s6 r hk h
    obtain ⟨k', rfl⟩ : ∃ m, k' = m + 1 := ⟨k' - 1, by omega⟩
    replace hk := Nat.le_of_succ_le_succ hk
    rw [erasurelaw30_CacheBounds.p1] at h ⊢
    rcases ite_or h with ⟨g_1, h⟩ | ⟨g_1, h⟩
    · refine itp g_1 ?_
      rcases ite_or h with ⟨g_2, h⟩ | ⟨g_2, h⟩
      · refine itp g_2 ?_
        obtain ⟨g_3, h⟩ := ite_some h
        refine itp g_3 ?_
        obtain ⟨y_4, e_5, h⟩ := bind_or h
        refine bnd (erasureref01_Int.mono _ _ _ _ hk e_5) ?_
        obtain ⟨y_6, e_7, h⟩ := bind_or h
        refine bnd (cache_Lookup.mono _ _ _ _ _ _ _ _ hk e_7) ?_
        rcases ite_or h with ⟨g_8, h⟩ | ⟨g_8, h⟩
        · refine itp g_8 ?_
          exact h
        · refine itn g_8 ?_
          exact ih _ _ _ _ _ _ _ r hk h
      · refine itn g_2 ?_
        obtain ⟨y_9, e_10, h⟩ := bind_or h
        refine bnd (erasureref01_Int.mono _ _ _ _ hk e_10) ?_
        obtain ⟨y_11, e_12, h⟩ := bind_or h
        refine bnd (cache_Lookup.mono _ _ _ _ _ _ _ _ hk e_12) ?_
        rcases ite_or h with ⟨g_13, h⟩ | ⟨g_13, h⟩
        · refine itp g_13 ?_
          exact h
        · refine itn g_13 ?_
          exact ih _ _ _ _ _ _ _ r hk h
    · refine itn g_1 ?_
      rcases ite_or h with ⟨g_14, h⟩ | ⟨g_14, h⟩
      · refine itp g_14 ?_
        exact h
      · refine itn g_14 ?_
        exact erasurelaw30_CacheBounds.p2.mono _ _ _ _ _ _ _ r hk h
theorem erasurelaw30_CacheBounds.mono   : ∀ (k k' : Nat) (n0 : Int) (order1 : (List Int)) (r : Bool), k ≤ k' → erasurelaw30_CacheBounds k n0 order1 = some r → erasurelaw30_CacheBounds k' n0 order1 = some r := by
  intro k k' n0 order1 r hk h
  unfold erasurelaw30_CacheBounds at h ⊢
  exact erasurelaw30_CacheBounds.p1.mono _ _ _ _ _ _ _ _ r hk h
theorem erasurelaw30_CacheBounds.spec {k : Nat} {n0 : Int} {order1 : (List Int)} {r : Bool} (h : erasurelaw30_CacheBounds k n0 order1 = some r) : Spec Try.prog 5 [.p (.int .i64 n0), .p (eL 1 (cI .i64) (0 : Int) order1)] (.p (.bool r)) [] :=
  spec_of mix Try.func5 (body := bodyOf Try.f5) (by kernel_rfl) (by kernel_rfl) (erasurelaw30_CacheBounds.run h)
end Go.Proofs.YtjhnpaenhdbhpabV
set_option linter.unusedVariables false
set_option linter.unusedSimpArgs false
set_option maxRecDepth 100000
namespace Go.Proofs.YtjhnpaenhdbhpabV
open Go Go.RowKit
noncomputable def erasureref01_Compare  (k : Nat) (a0 : TValue) (b1 : TValue) : Option Int := (erasureref01_Clean k a0).bind fun y_1 => ((erasureref01_Clean k b1).bind fun y_3 => (if ((y_1.f0 == y_3.f0) && ((y_1.f1 == y_3.f1) && ((y_1.f2.data.toList == y_3.f2.data.toList) && true))) = true then (some 0) else (if (decide (y_1.f0 < y_3.f0)) = true then (some (-1)) else (if (y_1.f0 == y_3.f0) = true then (if (decide (y_1.f1 < y_3.f1)) = true then (some (-1)) else (if (Op.bytesLess y_1.f2.data.toList y_3.f2.data.toList) = true then (some (-1)) else (some 1))) else (some 1)))))
noncomputable def erasureref01_Compare.t : List Item := [.code (bodyOf Try.f47)]
noncomputable def erasureref01_Compare.s (a0 : TValue) (b1 : TValue) : St := ⟨frOf Try.f47.ntmps 0 [(0, .agg ((cValue a0).map .p)), (1, .agg ((cValue b1).map .p))], []⟩
theorem erasureref01_Compare.run   {k : Nat} {a0 : TValue} {b1 : TValue} {r : Int} (h : erasureref01_Compare k a0 b1 = some r) : RunC Try.prog Try.f47 erasureref01_Compare.t (erasureref01_Compare.s a0 b1) (.p (.int .i64 r)) [] := by
  unfold erasureref01_Compare at h
  obtain ⟨y_1, e_2, h⟩ := bind_or h
  obtain ⟨y_3, e_4, h⟩ := bind_or h
  rcases ite_or h with ⟨g_5, h⟩ | ⟨g_5, h⟩
  · obtain rfl := Option.some.inj h
    exact RunC.out [.n 3, .r [(1, .call (.agg ((cValue y_1).map .p)) []), (3, .call (.agg ((cValue y_3).map .p)) [])], .n 2, .r [(2, .dec true)], .n 3] (by kernel_rfl) (Obs.of (by kernel_rfl) (And.intro (erasureref01_Clean.spec e_2) (And.intro (erasureref01_Clean.spec e_4) g_5)))
  · rcases ite_or h with ⟨g_6, h⟩ | ⟨g_6, h⟩
    · obtain rfl := Option.some.inj h
      exact RunC.out [.n 3, .r [(1, .call (.agg ((cValue y_1).map .p)) []), (3, .call (.agg ((cValue y_3).map .p)) [])], .n 2, .r [(2, .dec false)], .n 4, .r [(5, .dec true)], .n 3] (by kernel_rfl) (Obs.of (by kernel_rfl) (And.intro (erasureref01_Clean.spec e_2) (And.intro (erasureref01_Clean.spec e_4) (And.intro (nt g_5) g_6))))
    · rcases ite_or h with ⟨g_7, h⟩ | ⟨g_7, h⟩
      · rcases ite_or h with ⟨g_8, h⟩ | ⟨g_8, h⟩
        · obtain rfl := Option.some.inj h
          exact RunC.out [.n 3, .r [(1, .call (.agg ((cValue y_1).map .p)) []), (3, .call (.agg ((cValue y_3).map .p)) [])], .n 2, .r [(2, .dec false)], .n 4, .r [(5, .dec false), (11, .dec true), (17, .dec true)], .n 3] (by kernel_rfl) (Obs.of (by kernel_rfl) (And.intro (erasureref01_Clean.spec e_2) (And.intro (erasureref01_Clean.spec e_4) (And.intro (nt g_5) (And.intro (nt g_6) (And.intro g_7 g_8))))))
        · rcases ite_or h with ⟨g_9, h⟩ | ⟨g_9, h⟩
          · obtain rfl := Option.some.inj h
            exact RunC.out [.n 3, .r [(1, .call (.agg ((cValue y_1).map .p)) []), (3, .call (.agg ((cValue y_3).map .p)) [])], .n 2, .r [(2, .dec false)], .n 4, .r [(5, .dec false), (11, .dec true), (17, .dec false), (25, .dec true)], .n 3] (by kernel_rfl) (Obs.of (by kernel_rfl) (And.intro (erasureref01_Clean.spec e_2) (And.intro (erasureref01_Clean.spec e_4) (And.intro (nt g_5) (And.intro (nt g_6) (And.intro g_7 (And.intro (nt g_8) g_9)))))))
          · obtain rfl := Option.some.inj h
            exact RunC.out [.n 3, .r [(1, .call (.agg ((cValue y_1).map .p)) []), (3, .call (.agg ((cValue y_3).map .p)) [])], .n 2, .r [(2, .dec false)], .n 4, .r [(5, .dec false), (11, .dec true), (17, .dec false), (25, .dec false)], .n 4] (by kernel_rfl) (Obs.of (by kernel_rfl) (And.intro (erasureref01_Clean.spec e_2) (And.intro (erasureref01_Clean.spec e_4) (And.intro (nt g_5) (And.intro (nt g_6) (And.intro g_7 (And.intro (nt g_8) (nt g_9))))))))
      · obtain rfl := Option.some.inj h
        exact RunC.out [.n 3, .r [(1, .call (.agg ((cValue y_1).map .p)) []), (3, .call (.agg ((cValue y_3).map .p)) [])], .n 2, .r [(2, .dec false)], .n 4, .r [(5, .dec false), (11, .dec false)], .n 4] (by kernel_rfl) (Obs.of (by kernel_rfl) (And.intro (erasureref01_Clean.spec e_2) (And.intro (erasureref01_Clean.spec e_4) (And.intro (nt g_5) (And.intro (nt g_6) (nt g_7))))))
theorem erasureref01_Compare.mono   : ∀ (k k' : Nat) (a0 : TValue) (b1 : TValue) (r : Int), k ≤ k' → erasureref01_Compare k a0 b1 = some r → erasureref01_Compare k' a0 b1 = some r := by
  intro k k' a0 b1 r hk h
  unfold erasureref01_Compare at h ⊢
  obtain ⟨y_1, e_2, h⟩ := bind_or h
  refine bnd (erasureref01_Clean.mono _ _ _ _ hk e_2) ?_
  obtain ⟨y_3, e_4, h⟩ := bind_or h
  refine bnd (erasureref01_Clean.mono _ _ _ _ hk e_4) ?_
  rcases ite_or h with ⟨g_5, h⟩ | ⟨g_5, h⟩
  · refine itp g_5 ?_
    exact h
  · refine itn g_5 ?_
    rcases ite_or h with ⟨g_6, h⟩ | ⟨g_6, h⟩
    · refine itp g_6 ?_
      exact h
    · refine itn g_6 ?_
      rcases ite_or h with ⟨g_7, h⟩ | ⟨g_7, h⟩
      · refine itp g_7 ?_
        rcases ite_or h with ⟨g_8, h⟩ | ⟨g_8, h⟩
        · refine itp g_8 ?_
          exact h
        · refine itn g_8 ?_
          rcases ite_or h with ⟨g_9, h⟩ | ⟨g_9, h⟩
          · refine itp g_9 ?_
            exact h
          · refine itn g_9 ?_
            exact h
      · refine itn g_7 ?_
        exact h
theorem erasureref01_Compare.spec {k : Nat} {a0 : TValue} {b1 : TValue} {r : Int} (h : erasureref01_Compare k a0 b1 = some r) : Spec Try.prog 47 [.agg ((cValue a0).map .p), .agg ((cValue b1).map .p)] (.p (.int .i64 r)) [] :=
  spec_of mix Try.func47 (body := bodyOf Try.f47) (by kernel_rfl) (by kernel_rfl) (erasureref01_Compare.run h)
end Go.Proofs.YtjhnpaenhdbhpabV
set_option linter.unusedVariables false
set_option linter.unusedSimpArgs false
set_option maxRecDepth 100000
namespace Go.Proofs.YtjhnpaenhdbhpabV
open Go Go.RowKit
noncomputable def erasureref01_ValidRow.p1  : Nat → (List TValue) → Int → Option Bool
  | 0, _, _ => none
  | k + 1, r0, i3 => if (decide (i3 < ((r0).length : Int))) = true then (if 0 ≤ i3 ∧ i3 < ((r0).length : Int) then ((erasureref01_Valid k (r0.getD i3.toNat dValue)).bind fun y_4 => (if (!y_4) = true then (some false) else (erasureref01_ValidRow.p1 k r0 (IntKind.i64.wrap (i3 + 1))))) else none) else (some true)
noncomputable def erasureref01_ValidRow  (k : Nat) (r0 : (List TValue)) : Option Bool := if (decide (((r0).length : Int) > 16)) = true then (some false) else (erasureref01_ValidRow.p1 k r0 0)
noncomputable def erasureref01_ValidRow.t : List Item := [.code (bodyOf Try.f55)]
noncomputable def erasureref01_ValidRow.s (r0 : (List TValue)) : St := ⟨frOf Try.f55.ntmps 0 [(0, .p (eL 3 cValue dValue r0))], []⟩
noncomputable def erasureref01_ValidRow.p1.t : List Item := nav 12 [false] erasureref01_ValidRow.t
noncomputable def erasureref01_ValidRow.p1.s (r0 : (List TValue)) (i3 : Int) : St := ⟨frOf Try.f55.ntmps 0 [(0, .p (eL 3 cValue dValue r0)), (3, .p (.int .i64 i3))], []⟩
theorem erasureref01_ValidRow.p1.run   : ∀ (k : Nat) (r0 : (List TValue)) (i3 : Int) (r : Bool), erasureref01_ValidRow.p1 k r0 i3 = some r → RunC Try.prog Try.f55 erasureref01_ValidRow.p1.t (erasureref01_ValidRow.p1.s r0 i3) (.p (.bool r)) [] := by
  intro k
  induction k with
  | zero => intro r0 i3 r h; simp [erasureref01_ValidRow.p1] at h
  | succ k ih =>
    intro r0 i3 r h
    rw [erasureref01_ValidRow.p1] at h
    rcases ite_or h with ⟨g_2, h⟩ | ⟨g_2, h⟩
    · obtain ⟨g_3, h⟩ := ite_some h
      obtain ⟨y_4, e_5, h⟩ := bind_or h
      rcases ite_or h with ⟨g_6, h⟩ | ⟨g_6, h⟩
      · obtain rfl := Option.some.inj h
        exact RunC.out [.n 2, .r [(3, .dec true)], .n 5, .r [(4, .call (.p (.bool y_4)) []), (5, .dec true)], .n 3] (by kernel_rfl) (Obs.of (by kernel_rfl) (And.intro g_2 (And.intro g_3 (And.intro (erasureref01_Valid.spec e_5) g_6))))
      · exact RunC.go [.n 2, .r [(3, .dec true)], .n 5, .r [(4, .call (.p (.bool y_4)) []), (5, .dec false)], .n 5, .k [0, 3]] (by kernel_rfl) (Obs.of (by kernel_rfl) (And.intro g_2 (And.intro g_3 (And.intro (erasureref01_Valid.spec e_5) (nt g_6))))) (ih _ _ r h)
    · obtain rfl := Option.some.inj h
      exact RunC.out [.n 2, .r [(3, .dec false)], .n 4] (by kernel_rfl) (Obs.of (by kernel_rfl) (nt g_2))
theorem erasureref01_ValidRow.run   {k : Nat} {r0 : (List TValue)} {r : Bool} (h : erasureref01_ValidRow k r0 = some r) : RunC Try.prog Try.f55 erasureref01_ValidRow.t (erasureref01_ValidRow.s r0) (.p (.bool r)) [] := by
  unfold erasureref01_ValidRow at h
  rcases ite_or h with ⟨g_1, h⟩ | ⟨g_1, h⟩
  · obtain rfl := Option.some.inj h
    exact RunC.out [.n 4, .r [(2, .dec true)], .n 3] (by kernel_rfl) (Obs.of (by kernel_rfl) g_1)
  · exact RunC.go [.n 4, .r [(2, .dec false)], .n 7, .k [0, 3]] (by kernel_rfl) (Obs.of (by kernel_rfl) (nt g_1)) (erasureref01_ValidRow.p1.run k _ _ r h)
theorem erasureref01_ValidRow.p1.mono   : ∀ (k k' : Nat) (r0 : (List TValue)) (i3 : Int) (r : Bool), k ≤ k' → erasureref01_ValidRow.p1 k r0 i3 = some r → erasureref01_ValidRow.p1 k' r0 i3 = some r := by
  intro k
  induction k with
  | zero => intro k' r0 i3 r hk h; simp [erasureref01_ValidRow.p1] at h
  | succ k ih =>
    intro k' r0 i3 r hk h
    obtain ⟨k', rfl⟩ : ∃ m, k' = m + 1 := ⟨k' - 1, by omega⟩
    replace hk := Nat.le_of_succ_le_succ hk
    rw [erasureref01_ValidRow.p1] at h ⊢
    rcases ite_or h with ⟨g_2, h⟩ | ⟨g_2, h⟩
    · refine itp g_2 ?_
      obtain ⟨g_3, h⟩ := ite_some h
      refine itp g_3 ?_
      obtain ⟨y_4, e_5, h⟩ := bind_or h
      refine bnd (erasureref01_Valid.mono _ _ _ _ hk e_5) ?_
      rcases ite_or h with ⟨g_6, h⟩ | ⟨g_6, h⟩
      · refine itp g_6 ?_
        exact h
      · refine itn g_6 ?_
        exact ih _ _ _ r hk h
    · refine itn g_2 ?_
      exact h
theorem erasureref01_ValidRow.mono   : ∀ (k k' : Nat) (r0 : (List TValue)) (r : Bool), k ≤ k' → erasureref01_ValidRow k r0 = some r → erasureref01_ValidRow k' r0 = some r := by
  intro k k' r0 r hk h
  unfold erasureref01_ValidRow at h ⊢
  rcases ite_or h with ⟨g_1, h⟩ | ⟨g_1, h⟩
  · refine itp g_1 ?_
    exact h
  · refine itn g_1 ?_
    exact erasureref01_ValidRow.p1.mono _ _ _ _ r hk h
theorem erasureref01_ValidRow.spec {k : Nat} {r0 : (List TValue)} {r : Bool} (h : erasureref01_ValidRow k r0 = some r) : Spec Try.prog 55 [.p (eL 3 cValue dValue r0)] (.p (.bool r)) [] :=
  spec_of mix Try.func55 (body := bodyOf Try.f55) (by kernel_rfl) (by kernel_rfl) (erasureref01_ValidRow.run h)
end Go.Proofs.YtjhnpaenhdbhpabV
set_option linter.unusedVariables false
set_option linter.unusedSimpArgs false
set_option maxRecDepth 100000
namespace Go.Proofs.YtjhnpaenhdbhpabV
open Go Go.RowKit
noncomputable def erasureref06_countOK  (k : Nat) (n0 : Int) : Option Bool := if (decide (n0 ≥ (-262144))) = true then (some (decide (n0 ≤ 262144))) else (some false)
noncomputable def erasureref06_countOK.t : List Item := [.code (bodyOf Try.f56)]
noncomputable def erasureref06_countOK.s (n0 : Int) : St := ⟨frOf Try.f56.ntmps 0 [(0, .p (.int .i64 n0))], []⟩
theorem erasureref06_countOK.run   {k : Nat} {n0 : Int} {r : Bool} (h : erasureref06_countOK k n0 = some r) : RunC Try.prog Try.f56 erasureref06_countOK.t (erasureref06_countOK.s n0) (.p (.bool r)) [] := by
  unfold erasureref06_countOK at h
  rcases ite_or h with ⟨g_1, h⟩ | ⟨g_1, h⟩
  · obtain rfl := Option.some.inj h
    exact RunC.out [.n 3, .r [(2, .dec true)]] (by kernel_rfl) (Obs.of (by kernel_rfl) g_1)
  · obtain rfl := Option.some.inj h
    exact RunC.out [.n 3, .r [(2, .dec false)]] (by kernel_rfl) (Obs.of (by kernel_rfl) (nt g_1))
theorem erasureref06_countOK.mono   : ∀ (k k' : Nat) (n0 : Int) (r : Bool), k ≤ k' → erasureref06_countOK k n0 = some r → erasureref06_countOK k' n0 = some r := by
  intro k k' n0 r hk h
  unfold erasureref06_countOK at h ⊢
  rcases ite_or h with ⟨g_1, h⟩ | ⟨g_1, h⟩
  · refine itp g_1 ?_
    exact h
  · refine itn g_1 ?_
    exact h
theorem erasureref06_countOK.spec {k : Nat} {n0 : Int} {r : Bool} (h : erasureref06_countOK k n0 = some r) : Spec Try.prog 56 [.p (.int .i64 n0)] (.p (.bool r)) [] :=
  spec_of mix Try.func56 (body := bodyOf Try.f56) (by kernel_rfl) (by kernel_rfl) (erasureref06_countOK.run h)
end Go.Proofs.YtjhnpaenhdbhpabV
set_option linter.unusedVariables false
set_option linter.unusedSimpArgs false
set_option maxRecDepth 100000
namespace Go.Proofs.YtjhnpaenhdbhpabV
open Go Go.RowKit
noncomputable def erasureref01_CompareRows.p1  : Nat → (List TValue) → (List TValue) → Int → Option Int
  | 0, _, _, _ => none
  | k + 1, a0, b1, i5 => if (decide (i5 < ((a0).length : Int))) = true then (if (decide (i5 < ((b1).length : Int))) = true then (if 0 ≤ i5 ∧ i5 < ((a0).length : Int) then (if 0 ≤ i5 ∧ i5 < ((b1).length : Int) then ((erasureref01_Compare k (a0.getD i5.toNat dValue) (b1.getD i5.toNat dValue)).bind fun y_5 => (if (y_5 != 0) = true then (some y_5) else (erasureref01_CompareRows.p1 k a0 b1 (IntKind.i64.wrap (i5 + 1))))) else none) else none) else (if (decide (((a0).length : Int) < ((b1).length : Int))) = true then (some (-1)) else (if (decide (((a0).length : Int) > ((b1).length : Int))) = true then (some 1) else (some 0)))) else (if (decide (((a0).length : Int) < ((b1).length : Int))) = true then (some (-1)) else (if (decide (((a0).length : Int) > ((b1).length : Int))) = true then (some 1) else (some 0)))
noncomputable def erasureref01_CompareRows  (k : Nat) (a0 : (List TValue)) (b1 : (List TValue)) : Option Int := erasureref01_CompareRows.p1 k a0 b1 0
noncomputable def erasureref01_CompareRows.t : List Item := [.code (bodyOf Try.f62)]
noncomputable def erasureref01_CompareRows.s (a0 : (List TValue)) (b1 : (List TValue)) : St := ⟨frOf Try.f62.ntmps 0 [(0, .p (eL 3 cValue dValue a0)), (1, .p (eL 3 cValue dValue b1))], []⟩
noncomputable def erasureref01_CompareRows.p1.t : List Item := nav 7 [] erasureref01_CompareRows.t
noncomputable def erasureref01_CompareRows.p1.s (a0 : (List TValue)) (b1 : (List TValue)) (i5 : Int) : St := ⟨frOf Try.f62.ntmps 0 [(0, .p (eL 3 cValue dValue a0)), (1, .p (eL 3 cValue dValue b1)), (5, .p (.int .i64 i5))], []⟩
theorem erasureref01_CompareRows.p1.run   : ∀ (k : Nat) (a0 : (List TValue)) (b1 : (List TValue)) (i5 : Int) (r : Int), erasureref01_CompareRows.p1 k a0 b1 i5 = some r → RunC Try.prog Try.f62 erasureref01_CompareRows.p1.t (erasureref01_CompareRows.p1.s a0 b1 i5) (.p (.int .i64 r)) [] := by
  intro k
  induction k with
  | zero => intro a0 b1 i5 r h; simp [erasureref01_CompareRows.p1] at h
  | succ k ih =>
    intro a0 b1 i5 r h
    rw [erasureref01_CompareRows.p1] at h
    rcases ite_or h with ⟨g_1, h⟩ | ⟨g_1, h⟩
    · rcases ite_or h with ⟨g_2, h⟩ | ⟨g_2, h⟩
      · obtain ⟨g_3, h⟩ := ite_some h
        obtain ⟨g_4, h⟩ := ite_some h
        obtain ⟨y_5, e_6, h⟩ := bind_or h
        rcases ite_or h with ⟨g_7, h⟩ | ⟨g_7, h⟩
        · obtain rfl := Option.some.inj h
          exact RunC.out [.n 2, .r [(4, .dec true), (9, .dec true)], .n 5, .r [(8, .call (.p (.int .i64 y_5)) [])], .n 1, .r [(1, .dec true)], .n 3] (by kernel_rfl) (Obs.of (by kernel_rfl) (And.intro g_1 (And.intro g_2 (And.intro g_3 (And.intro g_4 (And.intro (erasureref01_Compare.spec e_6) g_7))))))
        · exact RunC.go [.n 2, .r [(4, .dec true), (9, .dec true)], .n 5, .r [(8, .call (.p (.int .i64 y_5)) [])], .n 1, .r [(1, .dec false)], .n 5, .k [0, 1, 5]] (by kernel_rfl) (Obs.of (by kernel_rfl) (And.intro g_1 (And.intro g_2 (And.intro g_3 (And.intro g_4 (And.intro (erasureref01_Compare.spec e_6) (nt g_7))))))) (ih _ _ _ r h)
      · rcases ite_or h with ⟨g_8, h⟩ | ⟨g_8, h⟩
        · obtain rfl := Option.some.inj h
          exact RunC.out [.n 2, .r [(4, .dec true), (9, .dec false)], .n 5, .r [(5, .dec true)], .n 3] (by kernel_rfl) (Obs.of (by kernel_rfl) (And.intro g_1 (And.intro (nt g_2) g_8)))
        · rcases ite_or h with ⟨g_9, h⟩ | ⟨g_9, h⟩
          · obtain rfl := Option.some.inj h
            exact RunC.out [.n 2, .r [(4, .dec true), (9, .dec false)], .n 5, .r [(5, .dec false)], .n 2, .r [(5, .dec true)], .n 3] (by kernel_rfl) (Obs.of (by kernel_rfl) (And.intro g_1 (And.intro (nt g_2) (And.intro (nt g_8) g_9))))
          · obtain rfl := Option.some.inj h
            exact RunC.out [.n 2, .r [(4, .dec true), (9, .dec false)], .n 5, .r [(5, .dec false)], .n 2, .r [(5, .dec false)], .n 5] (by kernel_rfl) (Obs.of (by kernel_rfl) (And.intro g_1 (And.intro (nt g_2) (And.intro (nt g_8) (nt g_9)))))
    · rcases ite_or h with ⟨g_10, h⟩ | ⟨g_10, h⟩
      · obtain rfl := Option.some.inj h
        exact RunC.out [.n 2, .r [(4, .dec false)], .n 5, .r [(5, .dec true)], .n 3] (by kernel_rfl) (Obs.of (by kernel_rfl) (And.intro (nt g_1) g_10))
      · rcases ite_or h with ⟨g_11, h⟩ | ⟨g_11, h⟩
        · obtain rfl := Option.some.inj h
          exact RunC.out [.n 2, .r [(4, .dec false)], .n 5, .r [(5, .dec false)], .n 2, .r [(5, .dec true)], .n 3] (by kernel_rfl) (Obs.of (by kernel_rfl) (And.intro (nt g_1) (And.intro (nt g_10) g_11)))
        · obtain rfl := Option.some.inj h
          exact RunC.out [.n 2, .r [(4, .dec false)], .n 5, .r [(5, .dec false)], .n 2, .r [(5, .dec false)], .n 5] (by kernel_rfl) (Obs.of (by kernel_rfl) (And.intro (nt g_1) (And.intro (nt g_10) (nt g_11))))
theorem erasureref01_CompareRows.run   {k : Nat} {a0 : (List TValue)} {b1 : (List TValue)} {r : Int} (h : erasureref01_CompareRows k a0 b1 = some r) : RunC Try.prog Try.f62 erasureref01_CompareRows.t (erasureref01_CompareRows.s a0 b1) (.p (.int .i64 r)) [] := by
  unfold erasureref01_CompareRows at h
  exact RunC.go [.n 7, .k [0, 1, 5]] (by kernel_rfl) (Obs.tt (by kernel_rfl)) (erasureref01_CompareRows.p1.run k _ _ _ r h)
theorem erasureref01_CompareRows.p1.mono   : ∀ (k k' : Nat) (a0 : (List TValue)) (b1 : (List TValue)) (i5 : Int) (r : Int), k ≤ k' → erasureref01_CompareRows.p1 k a0 b1 i5 = some r → erasureref01_CompareRows.p1 k' a0 b1 i5 = some r := by
  intro k
  induction k with
  | zero => intro k' a0 b1 i5 r hk h; simp [erasureref01_CompareRows.p1] at h
  | succ k ih =>
    intro k' a0 b1 i5 r hk h
    obtain ⟨k', rfl⟩ : ∃ m, k' = m + 1 := ⟨k' - 1, by omega⟩
    replace hk := Nat.le_of_succ_le_succ hk
    rw [erasureref01_CompareRows.p1] at h ⊢
    rcases ite_or h with ⟨g_1, h⟩ | ⟨g_1, h⟩
    · refine itp g_1 ?_
      rcases ite_or h with ⟨g_2, h⟩ | ⟨g_2, h⟩
      · refine itp g_2 ?_
        obtain ⟨g_3, h⟩ := ite_some h
        refine itp g_3 ?_
        obtain ⟨g_4, h⟩ := ite_some h
        refine itp g_4 ?_
        obtain ⟨y_5, e_6, h⟩ := bind_or h
        refine bnd (erasureref01_Compare.mono _ _ _ _ _ hk e_6) ?_
        rcases ite_or h with ⟨g_7, h⟩ | ⟨g_7, h⟩
        · refine itp g_7 ?_
          exact h
        · refine itn g_7 ?_
          exact ih _ _ _ _ r hk h
      · refine itn g_2 ?_
        rcases ite_or h with ⟨g_8, h⟩ | ⟨g_8, h⟩
        · refine itp g_8 ?_
          exact h
        · refine itn g_8 ?_
          rcases ite_or h with ⟨g_9, h⟩ | ⟨g_9, h⟩
          · refine itp g_9 ?_
            exact h
          · refine itn g_9 ?_
            exact h
    · refine itn g_1 ?_
      rcases ite_or h with ⟨g_10, h⟩ | ⟨g_10, h⟩
      · refine itp g_10 ?_
        exact h
      · refine itn g_10 ?_
        rcases ite_or h with ⟨g_11, h⟩ | ⟨g_11, h⟩
        · refine itp g_11 ?_
          exact h
        · refine itn g_11 ?_
          exact h
theorem erasureref01_CompareRows.mono   : ∀ (k k' : Nat) (a0 : (List TValue)) (b1 : (List TValue)) (r : Int), k ≤ k' → erasureref01_CompareRows k a0 b1 = some r → erasureref01_CompareRows k' a0 b1 = some r := by
  intro k k' a0 b1 r hk h
  unfold erasureref01_CompareRows at h ⊢
  exact erasureref01_CompareRows.p1.mono _ _ _ _ _ r hk h
theorem erasureref01_CompareRows.spec {k : Nat} {a0 : (List TValue)} {b1 : (List TValue)} {r : Int} (h : erasureref01_CompareRows k a0 b1 = some r) : Spec Try.prog 62 [.p (eL 3 cValue dValue a0), .p (eL 3 cValue dValue b1)] (.p (.int .i64 r)) [] :=
  spec_of mix Try.func62 (body := bodyOf Try.f62) (by kernel_rfl) (by kernel_rfl) (erasureref01_CompareRows.run h)
end Go.Proofs.YtjhnpaenhdbhpabV
set_option linter.unusedVariables false
set_option linter.unusedSimpArgs false
set_option maxRecDepth 100000
namespace Go.Proofs.YtjhnpaenhdbhpabV
open Go Go.RowKit
noncomputable def erasureref06_Valid.p1  : Nat → (List TEntry) → Int → Option Bool
  | 0, _, _ => none
  | k + 1, b0, i3 => if (decide (i3 < ((b0).length : Int))) = true then (if 0 ≤ i3 ∧ i3 < ((b0).length : Int) then ((erasureref01_ValidRow k ((b0.getD i3.toNat dEntry).f0)).bind fun y_4 => (if (!y_4) = true then (some false) else ((erasureref06_countOK k ((b0.getD i3.toNat dEntry).f1)).bind fun y_7 => (if (!y_7) = true then (some false) else (if ((b0.getD i3.toNat dEntry).f1 == 0) = true then (some false) else (if (decide (i3 > 0)) = true then (if 0 ≤ (IntKind.i64.wrap (i3 - 1)) ∧ (IntKind.i64.wrap (i3 - 1)) < ((b0).length : Int) then ((erasureref01_CompareRows k ((b0.getD (IntKind.i64.wrap (i3 - 1)).toNat dEntry).f0) ((b0.getD i3.toNat dEntry).f0)).bind fun y_13 => (if (decide (y_13 ≥ 0)) = true then (some false) else (erasureref06_Valid.p1 k b0 (IntKind.i64.wrap (i3 + 1))))) else none) else (erasureref06_Valid.p1 k b0 (IntKind.i64.wrap (i3 + 1))))))))) else none) else (some true)
noncomputable def erasureref06_Valid  (k : Nat) (b0 : (List TEntry)) : Option Bool := if (decide (((b0).length : Int) > 4096)) = true then (some false) else (erasureref06_Valid.p1 k b0 0)
noncomputable def erasureref06_Valid.t : List Item := [.code (bodyOf Try.f44)]
noncomputable def erasureref06_Valid.s (b0 : (List TEntry)) : St := ⟨frOf Try.f44.ntmps 0 [(0, .p (eL 2 cEntry dEntry b0))], []⟩
noncomputable def erasureref06_Valid.p1.t : List Item := nav 12 [false] erasureref06_Valid.t
noncomputable def erasureref06_Valid.p1.s (b0 : (List TEntry)) (i3 : Int) : St := ⟨frOf Try.f44.ntmps 0 [(0, .p (eL 2 cEntry dEntry b0)), (3, .p (.int .i64 i3))], []⟩
theorem erasureref06_Valid.p1.run   : ∀ (k : Nat) (b0 : (List TEntry)) (i3 : Int) (r : Bool), erasureref06_Valid.p1 k b0 i3 = some r → RunC Try.prog Try.f44 erasureref06_Valid.p1.t (erasureref06_Valid.p1.s b0 i3) (.p (.bool r)) [] := by
  intro k
  induction k with
  | zero => intro b0 i3 r h; simp [erasureref06_Valid.p1] at h
  | succ k ih =>
    intro b0 i3 r h
    rw [erasureref06_Valid.p1] at h
    rcases ite_or h with ⟨g_2, h⟩ | ⟨g_2, h⟩
    · obtain ⟨g_3, h⟩ := ite_some h
      obtain ⟨y_4, e_5, h⟩ := bind_or h
      rcases ite_or h with ⟨g_6, h⟩ | ⟨g_6, h⟩
      · obtain rfl := Option.some.inj h
        exact RunC.out [.n 2, .r [(3, .dec true)], .n 5, .r [(5, .call (.p (.bool y_4)) []), (7, .dec true)], .n 3] (by kernel_rfl) (Obs.of (by kernel_rfl) (And.intro g_2 (And.intro g_3 (And.intro (erasureref01_ValidRow.spec e_5) g_6))))
      · obtain ⟨y_7, e_8, h⟩ := bind_or h
        rcases ite_or h with ⟨g_9, h⟩ | ⟨g_9, h⟩
        · obtain rfl := Option.some.inj h
          exact RunC.out [.n 2, .r [(3, .dec true)], .n 5, .r [(5, .call (.p (.bool y_4)) []), (7, .dec false), (13, .call (.p (.bool y_7)) []), (16, .dec true)], .n 3] (by kernel_rfl) (Obs.of (by kernel_rfl) (And.intro g_2 (And.intro g_3 (And.intro (erasureref01_ValidRow.spec e_5) (And.intro (nt g_6) (And.intro g_3 (And.intro (erasureref06_countOK.spec e_8) g_9)))))))
        · rcases ite_or h with ⟨g_10, h⟩ | ⟨g_10, h⟩
          · obtain rfl := Option.some.inj h
            exact RunC.out [.n 2, .r [(3, .dec true)], .n 5, .r [(5, .call (.p (.bool y_4)) []), (7, .dec false), (13, .call (.p (.bool y_7)) []), (16, .dec false), (24, .dec true)], .n 3] (by kernel_rfl) (Obs.of (by kernel_rfl) (And.intro g_2 (And.intro g_3 (And.intro (erasureref01_ValidRow.spec e_5) (And.intro (nt g_6) (And.intro g_3 (And.intro (erasureref06_countOK.spec e_8) (And.intro (nt g_9) (And.intro g_3 g_10)))))))))
          · rcases ite_or h with ⟨g_11, h⟩ | ⟨g_11, h⟩
            · obtain ⟨g_12, h⟩ := ite_some h
              obtain ⟨y_13, e_14, h⟩ := bind_or h
              rcases ite_or h with ⟨g_15, h⟩ | ⟨g_15, h⟩
              · obtain rfl := Option.some.inj h
                exact RunC.out [.n 2, .r [(3, .dec true)], .n 5, .r [(5, .call (.p (.bool y_4)) []), (7, .dec false), (13, .call (.p (.bool y_7)) []), (16, .dec false), (24, .dec false), (27, .dec true), (39, .call (.p (.int .i64 y_13)) []), (42, .dec true)], .n 3] (by kernel_rfl) (Obs.of (by kernel_rfl) (And.intro g_2 (And.intro g_3 (And.intro (erasureref01_ValidRow.spec e_5) (And.intro (nt g_6) (And.intro g_3 (And.intro (erasureref06_countOK.spec e_8) (And.intro (nt g_9) (And.intro g_3 (And.intro (nt g_10) (And.intro g_11 (And.intro g_12 (And.intro g_3 (And.intro (erasureref01_CompareRows.spec e_14) g_15))))))))))))))
              · exact RunC.go [.n 2, .r [(3, .dec true)], .n 5, .r [(5, .call (.p (.bool y_4)) []), (7, .dec false), (13, .call (.p (.bool y_7)) []), (16, .dec false), (24, .dec false), (27, .dec true), (39, .call (.p (.int .i64 y_13)) []), (42, .dec false)], .n 5, .k [0, 3]] (by kernel_rfl) (Obs.of (by kernel_rfl) (And.intro g_2 (And.intro g_3 (And.intro (erasureref01_ValidRow.spec e_5) (And.intro (nt g_6) (And.intro g_3 (And.intro (erasureref06_countOK.spec e_8) (And.intro (nt g_9) (And.intro g_3 (And.intro (nt g_10) (And.intro g_11 (And.intro g_12 (And.intro g_3 (And.intro (erasureref01_CompareRows.spec e_14) (nt g_15))))))))))))))) (ih _ _ r h)
            · exact RunC.go [.n 2, .r [(3, .dec true)], .n 5, .r [(5, .call (.p (.bool y_4)) []), (7, .dec false), (13, .call (.p (.bool y_7)) []), (16, .dec false), (24, .dec false), (27, .dec false)], .n 5, .k [0, 3]] (by kernel_rfl) (Obs.of (by kernel_rfl) (And.intro g_2 (And.intro g_3 (And.intro (erasureref01_ValidRow.spec e_5) (And.intro (nt g_6) (And.intro g_3 (And.intro (erasureref06_countOK.spec e_8) (And.intro (nt g_9) (And.intro g_3 (And.intro (nt g_10) (nt g_11))))))))))) (ih _ _ r h)
    · obtain rfl := Option.some.inj h
      exact RunC.out [.n 2, .r [(3, .dec false)], .n 4] (by kernel_rfl) (Obs.of (by kernel_rfl) (nt g_2))
theorem erasureref06_Valid.run   {k : Nat} {b0 : (List TEntry)} {r : Bool} (h : erasureref06_Valid k b0 = some r) : RunC Try.prog Try.f44 erasureref06_Valid.t (erasureref06_Valid.s b0) (.p (.bool r)) [] := by
  unfold erasureref06_Valid at h
  rcases ite_or h with ⟨g_1, h⟩ | ⟨g_1, h⟩
  · obtain rfl := Option.some.inj h
    exact RunC.out [.n 4, .r [(2, .dec true)], .n 3] (by kernel_rfl) (Obs.of (by kernel_rfl) g_1)
  · exact RunC.go [.n 4, .r [(2, .dec false)], .n 7, .k [0, 3]] (by kernel_rfl) (Obs.of (by kernel_rfl) (nt g_1)) (erasureref06_Valid.p1.run k _ _ r h)
theorem erasureref06_Valid.p1.mono   : ∀ (k k' : Nat) (b0 : (List TEntry)) (i3 : Int) (r : Bool), k ≤ k' → erasureref06_Valid.p1 k b0 i3 = some r → erasureref06_Valid.p1 k' b0 i3 = some r := by
  intro k
  induction k with
  | zero => intro k' b0 i3 r hk h; simp [erasureref06_Valid.p1] at h
  | succ k ih =>
    intro k' b0 i3 r hk h
    obtain ⟨k', rfl⟩ : ∃ m, k' = m + 1 := ⟨k' - 1, by omega⟩
    replace hk := Nat.le_of_succ_le_succ hk
    rw [erasureref06_Valid.p1] at h ⊢
    rcases ite_or h with ⟨g_2, h⟩ | ⟨g_2, h⟩
    · refine itp g_2 ?_
      obtain ⟨g_3, h⟩ := ite_some h
      refine itp g_3 ?_
      obtain ⟨y_4, e_5, h⟩ := bind_or h
      refine bnd (erasureref01_ValidRow.mono _ _ _ _ hk e_5) ?_
      rcases ite_or h with ⟨g_6, h⟩ | ⟨g_6, h⟩
      · refine itp g_6 ?_
        exact h
      · refine itn g_6 ?_
        obtain ⟨y_7, e_8, h⟩ := bind_or h
        refine bnd (erasureref06_countOK.mono _ _ _ _ hk e_8) ?_
        rcases ite_or h with ⟨g_9, h⟩ | ⟨g_9, h⟩
        · refine itp g_9 ?_
          exact h
        · refine itn g_9 ?_
          rcases ite_or h with ⟨g_10, h⟩ | ⟨g_10, h⟩
          · refine itp g_10 ?_
            exact h
          · refine itn g_10 ?_
            rcases ite_or h with ⟨g_11, h⟩ | ⟨g_11, h⟩
            · refine itp g_11 ?_
              obtain ⟨g_12, h⟩ := ite_some h
              refine itp g_12 ?_
              obtain ⟨y_13, e_14, h⟩ := bind_or h
              refine bnd (erasureref01_CompareRows.mono _ _ _ _ _ hk e_14) ?_
              rcases ite_or h with ⟨g_15, h⟩ | ⟨g_15, h⟩
              · refine itp g_15 ?_
                exact h
              · refine itn g_15 ?_
                exact ih _ _ _ r hk h
            · refine itn g_11 ?_
              exact ih _ _ _ r hk h
    · refine itn g_2 ?_
      exact h
theorem erasureref06_Valid.mono   : ∀ (k k' : Nat) (b0 : (List TEntry)) (r : Bool), k ≤ k' → erasureref06_Valid k b0 = some r → erasureref06_Valid k' b0 = some r := by
  intro k k' b0 r hk h
  unfold erasureref06_Valid at h ⊢
  rcases ite_or h with ⟨g_1, h⟩ | ⟨g_1, h⟩
  · refine itp g_1 ?_
    exact h
  · refine itn g_1 ?_
    exact erasureref06_Valid.p1.mono _ _ _ _ r hk h
theorem erasureref06_Valid.spec {k : Nat} {b0 : (List TEntry)} {r : Bool} (h : erasureref06_Valid k b0 = some r) : Spec Try.prog 44 [.p (eL 2 cEntry dEntry b0)] (.p (.bool r)) [] :=
  spec_of mix Try.func44 (body := bodyOf Try.f44) (by kernel_rfl) (by kernel_rfl) (erasureref06_Valid.run h)
end Go.Proofs.YtjhnpaenhdbhpabV
set_option linter.unusedVariables false
set_option linter.unusedSimpArgs false
set_option maxRecDepth 100000
namespace Go.Proofs.YtjhnpaenhdbhpabV
open Go Go.RowKit
noncomputable def erasureref30_Valid.p1  : Nat → (List TCached) → Int → Option Bool
  | 0, _, _ => none
  | k + 1, s0, i3 => if (decide (i3 < ((s0).length : Int))) = true then (if 0 ≤ i3 ∧ i3 < ((s0).length : Int) then ((erasureref01_Valid k ((s0.getD i3.toNat dCached).f0)).bind fun y_3 => (if (!y_3) = true then (some false) else (if (decide (i3 > 0)) = true then (if 0 ≤ (IntKind.i64.wrap (i3 - 1)) ∧ (IntKind.i64.wrap (i3 - 1)) < ((s0).length : Int) then ((erasureref01_Compare k ((s0.getD (IntKind.i64.wrap (i3 - 1)).toNat dCached).f0) ((s0.getD i3.toNat dCached).f0)).bind fun y_8 => (if (decide (y_8 ≥ 0)) = true then (some false) else ((erasureref06_Valid k ((s0.getD i3.toNat dCached).f1)).bind fun y_11 => (if (!y_11) = true then (some false) else (if (decide ((s0.getD i3.toNat dCached).f2 < 0)) = true then (some false) else (if (decide ((s0.getD i3.toNat dCached).f2 > 1048576)) = true then (some false) else (erasureref30_Valid.p1 k s0 (IntKind.i64.wrap (i3 + 1))))))))) else none) else ((erasureref06_Valid k ((s0.getD i3.toNat dCached).f1)).bind fun y_16 => (if (!y_16) = true then (some false) else (if (decide ((s0.getD i3.toNat dCached).f2 < 0)) = true then (some false) else (if (decide ((s0.getD i3.toNat dCached).f2 > 1048576)) = true then (some false) else (erasureref30_Valid.p1 k s0 (IntKind.i64.wrap (i3 + 1)))))))))) else none) else (some (decide (((s0).length : Int) ≤ 16)))
noncomputable def erasureref30_Valid  (k : Nat) (s0 : (List TCached)) : Option Bool := erasureref30_Valid.p1 k s0 0
noncomputable def erasureref30_Valid.t : List Item := [.code (bodyOf Try.f31)]
noncomputable def erasureref30_Valid.s (s0 : (List TCached)) : St := ⟨frOf Try.f31.ntmps 0 [(0, .p (eL 5 cCached dCached s0))], []⟩
noncomputable def erasureref30_Valid.p1.t : List Item := nav 7 [] erasureref30_Valid.t
noncomputable def erasureref30_Valid.p1.s (s0 : (List TCached)) (i3 : Int) : St := ⟨frOf Try.f31.ntmps 0 [(0, .p (eL 5 cCached dCached s0)), (3, .p (.int .i64 i3))], []⟩
theorem erasureref30_Valid.p1.run   : ∀ (k : Nat) (s0 : (List TCached)) (i3 : Int) (r : Bool), erasureref30_Valid.p1 k s0 i3 = some r → RunC Try.prog Try.f31 erasureref30_Valid.p1.t (erasureref30_Valid.p1.s s0 i3) (.p (.bool r)) [] := by
  intro k
  induction k with
  | zero => intro s0 i3 r h; simp [erasureref30_Valid.p1] at h
  | succ k ih =>
    intro s0 i3 r h
    rw [erasureref30_Valid.p1] at h
    rcases ite_or h with ⟨g_1, h⟩ | ⟨g_1, h⟩
    · obtain ⟨g_2, h⟩ := ite_some h
      obtain ⟨y_3, e_4, h⟩ := bind_or h
      rcases ite_or h with ⟨g_5, h⟩ | ⟨g_5, h⟩
      · obtain rfl := Option.some.inj h
        exact RunC.out [.n 2, .r [(3, .dec true)], .n 5, .r [(5, .call (.p (.bool y_3)) []), (7, .dec true)], .n 3] (by kernel_rfl) (Obs.of (by kernel_rfl) (And.intro g_1 (And.intro g_2 (And.intro (erasureref01_Valid.spec e_4) g_5))))
      · rcases ite_or h with ⟨g_6, h⟩ | ⟨g_6, h⟩
        · obtain ⟨g_7, h⟩ := ite_some h
          obtain ⟨y_8, e_9, h⟩ := bind_or h
          rcases ite_or h with ⟨g_10, h⟩ | ⟨g_10, h⟩
          · obtain rfl := Option.some.inj h
            exact RunC.out [.n 2, .r [(3, .dec true)], .n 5, .r [(5, .call (.p (.bool y_3)) []), (7, .dec false), (10, .dec true), (22, .call (.p (.int .i64 y_8)) []), (26, .dec true)], .n 3] (by kernel_rfl) (Obs.of (by kernel_rfl) (And.intro g_1 (And.intro g_2 (And.intro (erasureref01_Valid.spec e_4) (And.intro (nt g_5) (And.intro g_6 (And.intro g_7 (And.intro g_2 (And.intro (erasureref01_Compare.spec e_9) g_10)))))))))
          · obtain ⟨y_11, e_12, h⟩ := bind_or h
            rcases ite_or h with ⟨g_13, h⟩ | ⟨g_13, h⟩
            · obtain rfl := Option.some.inj h
              exact RunC.out [.n 2, .r [(3, .dec true)], .n 5, .r [(5, .call (.p (.bool y_3)) []), (7, .dec false), (10, .dec true), (22, .call (.p (.int .i64 y_8)) []), (26, .dec false), (32, .call (.p (.bool y_11)) []), (35, .dec true)], .n 3] (by kernel_rfl) (Obs.of (by kernel_rfl) (And.intro g_1 (And.intro g_2 (And.intro (erasureref01_Valid.spec e_4) (And.intro (nt g_5) (And.intro g_6 (And.intro g_7 (And.intro g_2 (And.intro (erasureref01_Compare.spec e_9) (And.intro (nt g_10) (And.intro g_2 (And.intro (erasureref06_Valid.spec e_12) g_13))))))))))))
            · rcases ite_or h with ⟨g_14, h⟩ | ⟨g_14, h⟩
              · obtain rfl := Option.some.inj h
                exact RunC.out [.n 2, .r [(3, .dec true)], .n 5, .r [(5, .call (.p (.bool y_3)) []), (7, .dec false), (10, .dec true), (22, .call (.p (.int .i64 y_8)) []), (26, .dec false), (32, .call (.p (.bool y_11)) []), (35, .dec false), (43, .dec true)], .n 3] (by kernel_rfl) (Obs.of (by kernel_rfl) (And.intro g_1 (And.intro g_2 (And.intro (erasureref01_Valid.spec e_4) (And.intro (nt g_5) (And.intro g_6 (And.intro g_7 (And.intro g_2 (And.intro (erasureref01_Compare.spec e_9) (And.intro (nt g_10) (And.intro g_2 (And.intro (erasureref06_Valid.spec e_12) (And.intro (nt g_13) (And.intro g_2 g_14))))))))))))))
              · rcases ite_or h with ⟨g_15, h⟩ | ⟨g_15, h⟩
                · obtain rfl := Option.some.inj h
                  exact RunC.out [.n 2, .r [(3, .dec true)], .n 5, .r [(5, .call (.p (.bool y_3)) []), (7, .dec false), (10, .dec true), (22, .call (.p (.int .i64 y_8)) []), (26, .dec false), (32, .call (.p (.bool y_11)) []), (35, .dec false), (43, .dec false), (50, .dec true)], .n 3] (by kernel_rfl) (Obs.of (by kernel_rfl) (And.intro g_1 (And.intro g_2 (And.intro (erasureref01_Valid.spec e_4) (And.intro (nt g_5) (And.intro g_6 (And.intro g_7 (And.intro g_2 (And.intro (erasureref01_Compare.spec e_9) (And.intro (nt g_10) (And.intro g_2 (And.intro (erasureref06_Valid.spec e_12) (And.intro (nt g_13) (And.intro g_2 (And.intro (nt g_14) (And.intro g_2 g_15))))))))))))))))
                · exact RunC.go [.n 2, .r [(3, .dec true)], .n 5, .r [(5, .call (.p (.bool y_3)) []), (7, .dec false), (10, .dec true), (22, .call (.p (.int .i64 y_8)) []), (26, .dec false), (32, .call (.p (.bool y_11)) []), (35, .dec false), (43, .dec false), (50, .dec false)], .n 5, .k [0, 3]] (by kernel_rfl) (Obs.of (by kernel_rfl) (And.intro g_1 (And.intro g_2 (And.intro (erasureref01_Valid.spec e_4) (And.intro (nt g_5) (And.intro g_6 (And.intro g_7 (And.intro g_2 (And.intro (erasureref01_Compare.spec e_9) (And.intro (nt g_10) (And.intro g_2 (And.intro (erasureref06_Valid.spec e_12) (And.intro (nt g_13) (And.intro g_2 (And.intro (nt g_14) (And.intro g_2 (nt g_15))))))))))))))))) (ih _ _ r h)
        · obtain ⟨y_16, e_17, h⟩ := bind_or h
          rcases ite_or h with ⟨g_18, h⟩ | ⟨g_18, h⟩
          · obtain rfl := Option.some.inj h
            exact RunC.out [.n 2, .r [(3, .dec true)], .n 5, .r [(5, .call (.p (.bool y_3)) []), (7, .dec false), (10, .dec false), (32, .call (.p (.bool y_16)) []), (35, .dec true)], .n 3] (by kernel_rfl) (Obs.of (by kernel_rfl) (And.intro g_1 (And.intro g_2 (And.intro (erasureref01_Valid.spec e_4) (And.intro (nt g_5) (And.intro (nt g_6) (And.intro g_2 (And.intro (erasureref06_Valid.spec e_17) g_18))))))))
          · rcases ite_or h with ⟨g_19, h⟩ | ⟨g_19, h⟩
            · obtain rfl := Option.some.inj h
              exact RunC.out [.n 2, .r [(3, .dec true)], .n 5, .r [(5, .call (.p (.bool y_3)) []), (7, .dec false), (10, .dec false), (32, .call (.p (.bool y_16)) []), (35, .dec false), (43, .dec true)], .n 3] (by kernel_rfl) (Obs.of (by kernel_rfl) (And.intro g_1 (And.intro g_2 (And.intro (erasureref01_Valid.spec e_4) (And.intro (nt g_5) (And.intro (nt g_6) (And.intro g_2 (And.intro (erasureref06_Valid.spec e_17) (And.intro (nt g_18) (And.intro g_2 g_19))))))))))
            · rcases ite_or h with ⟨g_20, h⟩ | ⟨g_20, h⟩
              · obtain rfl := Option.some.inj h
                exact RunC.out [.n 2, .r [(3, .dec true)], .n 5, .r [(5, .call (.p (.bool y_3)) []), (7, .dec false), (10, .dec false), (32, .call (.p (.bool y_16)) []), (35, .dec false), (43, .dec false), (50, .dec true)], .n 3] (by kernel_rfl) (Obs.of (by kernel_rfl) (And.intro g_1 (And.intro g_2 (And.intro (erasureref01_Valid.spec e_4) (And.intro (nt g_5) (And.intro (nt g_6) (And.intro g_2 (And.intro (erasureref06_Valid.spec e_17) (And.intro (nt g_18) (And.intro g_2 (And.intro (nt g_19) (And.intro g_2 g_20))))))))))))
              · exact RunC.go [.n 2, .r [(3, .dec true)], .n 5, .r [(5, .call (.p (.bool y_3)) []), (7, .dec false), (10, .dec false), (32, .call (.p (.bool y_16)) []), (35, .dec false), (43, .dec false), (50, .dec false)], .n 5, .k [0, 3]] (by kernel_rfl) (Obs.of (by kernel_rfl) (And.intro g_1 (And.intro g_2 (And.intro (erasureref01_Valid.spec e_4) (And.intro (nt g_5) (And.intro (nt g_6) (And.intro g_2 (And.intro (erasureref06_Valid.spec e_17) (And.intro (nt g_18) (And.intro g_2 (And.intro (nt g_19) (And.intro g_2 (nt g_20))))))))))))) (ih _ _ r h)
    · obtain rfl := Option.some.inj h
      exact RunC.out [.n 2, .r [(3, .dec false)], .n 4] (by kernel_rfl) (Obs.of (by kernel_rfl) (nt g_1))
theorem erasureref30_Valid.run   {k : Nat} {s0 : (List TCached)} {r : Bool} (h : erasureref30_Valid k s0 = some r) : RunC Try.prog Try.f31 erasureref30_Valid.t (erasureref30_Valid.s s0) (.p (.bool r)) [] := by
  unfold erasureref30_Valid at h
  exact RunC.go [.n 7, .k [0, 3]] (by kernel_rfl) (Obs.tt (by kernel_rfl)) (erasureref30_Valid.p1.run k _ _ r h)
theorem erasureref30_Valid.p1.mono   : ∀ (k k' : Nat) (s0 : (List TCached)) (i3 : Int) (r : Bool), k ≤ k' → erasureref30_Valid.p1 k s0 i3 = some r → erasureref30_Valid.p1 k' s0 i3 = some r := by
  intro k
  induction k with
  | zero => intro k' s0 i3 r hk h; simp [erasureref30_Valid.p1] at h
  | succ k ih =>
    intro k' s0 i3 r hk h
    obtain ⟨k', rfl⟩ : ∃ m, k' = m + 1 := ⟨k' - 1, by omega⟩
    replace hk := Nat.le_of_succ_le_succ hk
    rw [erasureref30_Valid.p1] at h ⊢
    rcases ite_or h with ⟨g_1, h⟩ | ⟨g_1, h⟩
    · refine itp g_1 ?_
      obtain ⟨g_2, h⟩ := ite_some h
      refine itp g_2 ?_
      obtain ⟨y_3, e_4, h⟩ := bind_or h
      refine bnd (erasureref01_Valid.mono _ _ _ _ hk e_4) ?_
      rcases ite_or h with ⟨g_5, h⟩ | ⟨g_5, h⟩
      · refine itp g_5 ?_
        exact h
      · refine itn g_5 ?_
        rcases ite_or h with ⟨g_6, h⟩ | ⟨g_6, h⟩
        · refine itp g_6 ?_
          obtain ⟨g_7, h⟩ := ite_some h
          refine itp g_7 ?_
          obtain ⟨y_8, e_9, h⟩ := bind_or h
          refine bnd (erasureref01_Compare.mono _ _ _ _ _ hk e_9) ?_
          rcases ite_or h with ⟨g_10, h⟩ | ⟨g_10, h⟩
          · refine itp g_10 ?_
            exact h
          · refine itn g_10 ?_
            obtain ⟨y_11, e_12, h⟩ := bind_or h
            refine bnd (erasureref06_Valid.mono _ _ _ _ hk e_12) ?_
            rcases ite_or h with ⟨g_13, h⟩ | ⟨g_13, h⟩
            · refine itp g_13 ?_
              exact h
            · refine itn g_13 ?_
              rcases ite_or h with ⟨g_14, h⟩ | ⟨g_14, h⟩
              · refine itp g_14 ?_
                exact h
              · refine itn g_14 ?_
                rcases ite_or h with ⟨g_15, h⟩ | ⟨g_15, h⟩
                · refine itp g_15 ?_
                  exact h
                · refine itn g_15 ?_
                  exact ih _ _ _ r hk h
        · refine itn g_6 ?_
          obtain ⟨y_16, e_17, h⟩ := bind_or h
          refine bnd (erasureref06_Valid.mono _ _ _ _ hk e_17) ?_
          rcases ite_or h with ⟨g_18, h⟩ | ⟨g_18, h⟩
          · refine itp g_18 ?_
            exact h
          · refine itn g_18 ?_
            rcases ite_or h with ⟨g_19, h⟩ | ⟨g_19, h⟩
            · refine itp g_19 ?_
              exact h
            · refine itn g_19 ?_
              rcases ite_or h with ⟨g_20, h⟩ | ⟨g_20, h⟩
              · refine itp g_20 ?_
                exact h
              · refine itn g_20 ?_
                exact ih _ _ _ r hk h
    · refine itn g_1 ?_
      exact h
theorem erasureref30_Valid.mono   : ∀ (k k' : Nat) (s0 : (List TCached)) (r : Bool), k ≤ k' → erasureref30_Valid k s0 = some r → erasureref30_Valid k' s0 = some r := by
  intro k k' s0 r hk h
  unfold erasureref30_Valid at h ⊢
  exact erasureref30_Valid.p1.mono _ _ _ _ r hk h
theorem erasureref30_Valid.spec {k : Nat} {s0 : (List TCached)} {r : Bool} (h : erasureref30_Valid k s0 = some r) : Spec Try.prog 31 [.p (eL 5 cCached dCached s0)] (.p (.bool r)) [] :=
  spec_of mix Try.func31 (body := bodyOf Try.f31) (by kernel_rfl) (by kernel_rfl) (erasureref30_Valid.run h)
end Go.Proofs.YtjhnpaenhdbhpabV
set_option linter.unusedVariables false
set_option linter.unusedSimpArgs false
set_option maxRecDepth 100000
namespace Go.Proofs.YtjhnpaenhdbhpabV
open Go Go.RowKit
noncomputable def erasureref30_ranged  (k : Nat) (c0 : TCache) (day1 : Int) : Option Bool := if (decide (c0.f3 ≥ 0)) = true then (if (decide (c0.f3 ≤ 1048576)) = true then (if (decide (day1 ≥ 0)) = true then (some (decide (day1 ≤ 1048576))) else (some false)) else (some false)) else (some false)
noncomputable def erasureref30_ranged.t : List Item := [.code (bodyOf Try.f45)]
noncomputable def erasureref30_ranged.s (c0 : TCache) (day1 : Int) : St := ⟨frOf Try.f45.ntmps 0 [(0, .agg ((cCache c0).map .p)), (1, .p (.int .i64 day1))], []⟩
theorem erasureref30_ranged.run   {k : Nat} {c0 : TCache} {day1 : Int} {r : Bool} (h : erasureref30_ranged k c0 day1 = some r) : RunC Try.prog Try.f45 erasureref30_ranged.t (erasureref30_ranged.s c0 day1) (.p (.bool r)) [] := by
  unfold erasureref30_ranged at h
  rcases ite_or h with ⟨g_1, h⟩ | ⟨g_1, h⟩
  · rcases ite_or h with ⟨g_2, h⟩ | ⟨g_2, h⟩
    · rcases ite_or h with ⟨g_3, h⟩ | ⟨g_3, h⟩
      · obtain rfl := Option.some.inj h
        exact RunC.out [.n 3, .r [(3, .dec true), (8, .dec true), (12, .dec true)]] (by kernel_rfl) (Obs.of (by kernel_rfl) (And.intro g_1 (And.intro g_2 g_3)))
      · obtain rfl := Option.some.inj h
        exact RunC.out [.n 3, .r [(3, .dec true), (8, .dec true), (12, .dec false)]] (by kernel_rfl) (Obs.of (by kernel_rfl) (And.intro g_1 (And.intro g_2 (nt g_3))))
    · obtain rfl := Option.some.inj h
      exact RunC.out [.n 3, .r [(3, .dec true), (8, .dec false)]] (by kernel_rfl) (Obs.of (by kernel_rfl) (And.intro g_1 (nt g_2)))
  · obtain rfl := Option.some.inj h
    exact RunC.out [.n 3, .r [(3, .dec false)]] (by kernel_rfl) (Obs.of (by kernel_rfl) (nt g_1))
theorem erasureref30_ranged.mono   : ∀ (k k' : Nat) (c0 : TCache) (day1 : Int) (r : Bool), k ≤ k' → erasureref30_ranged k c0 day1 = some r → erasureref30_ranged k' c0 day1 = some r := by
  intro k k' c0 day1 r hk h
  unfold erasureref30_ranged at h ⊢
  rcases ite_or h with ⟨g_1, h⟩ | ⟨g_1, h⟩
  · refine itp g_1 ?_
    rcases ite_or h with ⟨g_2, h⟩ | ⟨g_2, h⟩
    · refine itp g_2 ?_
      rcases ite_or h with ⟨g_3, h⟩ | ⟨g_3, h⟩
      · refine itp g_3 ?_
        exact h
      · refine itn g_3 ?_
        exact h
    · refine itn g_2 ?_
      exact h
  · refine itn g_1 ?_
    exact h
theorem erasureref30_ranged.spec {k : Nat} {c0 : TCache} {day1 : Int} {r : Bool} (h : erasureref30_ranged k c0 day1 = some r) : Spec Try.prog 45 [.agg ((cCache c0).map .p), .p (.int .i64 day1)] (.p (.bool r)) [] :=
  spec_of mix Try.func45 (body := bodyOf Try.f45) (by kernel_rfl) (by kernel_rfl) (erasureref30_ranged.run h)
end Go.Proofs.YtjhnpaenhdbhpabV
set_option linter.unusedVariables false
set_option linter.unusedSimpArgs false
set_option maxRecDepth 100000
namespace Go.Proofs.YtjhnpaenhdbhpabV
open Go Go.RowKit
noncomputable def erasureref30_Expire.p1  : Nat → (List TCached) → Int → Int → TCache → (List TCached) → Option (List TCached)
  | 0, _, _, _, _, _ => none
  | k + 1, s1, day2, i8, c3b, out7 => if (decide (i8 < ((s1).length : Int))) = true then (if 0 ≤ i8 ∧ i8 < ((s1).length : Int) then (if (decide (day2 ≥ (s1.getD i8.toNat dCached).f2)) = true then (if (decide (day2 < (IntKind.i64.wrap ((s1.getD i8.toNat dCached).f2 + c3b.f3)))) = true then (if (out7).length + ([(s1.getD i8.toNat dCached)]).length ≤ maxLen ∧ ((out7).length + ([(s1.getD i8.toNat dCached)]).length) * 64 ≤ 140737488355328 then (erasureref30_Expire.p1 k s1 day2 (IntKind.i64.wrap (i8 + 1)) c3b (out7 ++ ([(s1.getD i8.toNat dCached)]))) else none) else (erasureref30_Expire.p1 k s1 day2 (IntKind.i64.wrap (i8 + 1)) c3b out7)) else (erasureref30_Expire.p1 k s1 day2 (IntKind.i64.wrap (i8 + 1)) c3b out7)) else none) else (some out7)
noncomputable def erasureref30_Expire  (k : Nat) (c0 : TCache) (s1 : (List TCached)) (day2 : Int) : Option (List TCached) := (erasureref30_Valid k s1).bind fun y_1 => (if (!y_1) = true then (some ([] : List TCached)) else ((erasureref30_ranged k c0 day2).bind fun y_4 => (if (!y_4) = true then (some ([] : List TCached)) else (erasureref30_Expire.p1 k s1 day2 0 c0 ([] : List TCached)))))
noncomputable def erasureref30_Expire.t : List Item := [.code (bodyOf Try.f26)]
noncomputable def erasureref30_Expire.s (c0 : TCache) (s1 : (List TCached)) (day2 : Int) : St := ⟨frOf Try.f26.ntmps 0 [(0, .agg ((cCache c0).map .p)), (1, .p (eL 5 cCached dCached s1)), (2, .p (.int .i64 day2))], []⟩
noncomputable def erasureref30_Expire.p1.t : List Item := nav 14 [false] erasureref30_Expire.t
noncomputable def erasureref30_Expire.p1.s (s1 : (List TCached)) (day2 : Int) (i8 : Int) (c3b : TCache) (out7 : (List TCached)) : St := ⟨frOf Try.f26.ntmps 0 [(1, .p (eL 5 cCached dCached s1)), (2, .p (.int .i64 day2)), (3, .ptr 0 0 0), (7, .sref 1 46 5 (out7).length), (8, .p (.int .i64 i8))], [.box ((cCache c3b).map .p), (oL true 46 5 cCached dCached out7)]⟩
theorem erasureref30_Expire.p1.run   : ∀ (k : Nat) (s1 : (List TCached)) (day2 : Int) (i8 : Int) (c3b : TCache) (out7 : (List TCached)) (r : (List TCached)), erasureref30_Expire.p1 k s1 day2 i8 c3b out7 = some r → RunC Try.prog Try.f26 erasureref30_Expire.p1.t (erasureref30_Expire.p1.s s1 day2 i8 c3b out7) (.sref 0 46 5 (r).length) [(oL true 46 5 cCached dCached (r))] := by
  intro k
  induction k with
  | zero => intro s1 day2 i8 c3b out7 r h; simp [erasureref30_Expire.p1] at h
  | succ k ih =>
    intro s1 day2 i8 c3b out7 r h
    rw [erasureref30_Expire.p1] at h
    rcases ite_or h with ⟨g_7, h⟩ | ⟨g_7, h⟩
    · obtain ⟨g_8, h⟩ := ite_some h
      rcases ite_or h with ⟨g_9, h⟩ | ⟨g_9, h⟩
      · rcases ite_or h with ⟨g_10, h⟩ | ⟨g_10, h⟩
        · obtain ⟨g_11, h⟩ := ite_some h
          exact RunC.go [.n 2, .r [(3, .dec true)], .n 5, .r [(7, .dec true), (18, .dec true)], .n 1, .r [(5, .obj (oL true 46 5 cCached dCached [(s1.getD i8.toNat dCached)])), (6, .obj (oL true 46 5 cCached dCached (out7 ++ ([(s1.getD i8.toNat dCached)]))))], .n 3, .k [1, 2, 3, 7, 8]] (by kernel_rfl) (Obs.of (by kernel_rfl) (And.intro g_7 (And.intro g_8 (And.intro g_9 (And.intro g_8 (And.intro g_10 (And.intro g_8 (And.intro (le_one 46 5 cCached dCached (s1.getD i8.toNat dCached)) (And.intro g_11 (le_app 46 5 cCached dCached out7 ([(s1.getD i8.toNat dCached)]))))))))))) (ih _ _ _ _ _ r h)
        · exact RunC.go [.n 2, .r [(3, .dec true)], .n 5, .r [(7, .dec true), (18, .dec false)], .n 5, .k [1, 2, 3, 7, 8]] (by kernel_rfl) (Obs.of (by kernel_rfl) (And.intro g_7 (And.intro g_8 (And.intro g_9 (And.intro g_8 (nt g_10)))))) (ih _ _ _ _ _ r h)
      · exact RunC.go [.n 2, .r [(3, .dec true)], .n 5, .r [(7, .dec false)], .n 5, .k [1, 2, 3, 7, 8]] (by kernel_rfl) (Obs.of (by kernel_rfl) (And.intro g_7 (And.intro g_8 (nt g_9)))) (ih _ _ _ _ _ r h)
    · obtain rfl := Option.some.inj h
      exact RunC.out [.n 2, .r [(3, .dec false)], .n 4] (by kernel_rfl) (Obs.of (by kernel_rfl) (nt g_7))
theorem erasureref30_Expire.run   {k : Nat} {c0 : TCache} {s1 : (List TCached)} {day2 : Int} {r : (List TCached)} (h : erasureref30_Expire k c0 s1 day2 = some r) : RunC Try.prog Try.f26 erasureref30_Expire.t (erasureref30_Expire.s c0 s1 day2) (.sref 0 46 5 (r).length) [(oL true 46 5 cCached dCached (r))] := by
  unfold erasureref30_Expire at h
  obtain ⟨y_1, e_2, h⟩ := bind_or h
  rcases ite_or h with ⟨g_3, h⟩ | ⟨g_3, h⟩
  · obtain rfl := Option.some.inj h
    exact RunC.out [.n 1, .r [(1, .obj (oL true 46 5 cCached dCached ([] : List TCached)))], .n 2, .r [(1, .call (.p (.bool y_1)) []), (3, .dec true)], .n 2, .r [(0, .obj (oL true 46 5 cCached dCached ([] : List TCached)))]] (by kernel_rfl) (Obs.of (by kernel_rfl) (And.intro (le_nil 46 5 cCached dCached) (And.intro (erasureref30_Valid.spec e_2) (And.intro g_3 (le_nil 46 5 cCached dCached)))))
  · obtain ⟨y_4, e_5, h⟩ := bind_or h
    rcases ite_or h with ⟨g_6, h⟩ | ⟨g_6, h⟩
    · obtain rfl := Option.some.inj h
      exact RunC.out [.n 1, .r [(1, .obj (oL true 46 5 cCached dCached ([] : List TCached)))], .n 2, .r [(1, .call (.p (.bool y_1)) []), (3, .dec false), (6, .call (.p (.bool y_4)) []), (8, .dec true)], .n 2, .r [(0, .obj (oL true 46 5 cCached dCached ([] : List TCached)))]] (by kernel_rfl) (Obs.of (by kernel_rfl) (And.intro (le_nil 46 5 cCached dCached) (And.intro (erasureref30_Valid.spec e_2) (And.intro (nt g_3) (And.intro (erasureref30_ranged.spec e_5) (And.intro g_6 (le_nil 46 5 cCached dCached)))))))
    · exact RunC.go [.n 1, .r [(1, .obj (oL true 46 5 cCached dCached ([] : List TCached)))], .n 2, .r [(1, .call (.p (.bool y_1)) []), (3, .dec false), (6, .call (.p (.bool y_4)) []), (8, .dec false)], .n 3, .r [(0, .obj (oL true 46 5 cCached dCached ([] : List TCached)))], .n 5, .k [1, 2, 3, 7, 8]] (by kernel_rfl) (Obs.of (by kernel_rfl) (And.intro (le_nil 46 5 cCached dCached) (And.intro (erasureref30_Valid.spec e_2) (And.intro (nt g_3) (And.intro (erasureref30_ranged.spec e_5) (And.intro (nt g_6) (le_nil 46 5 cCached dCached))))))) (erasureref30_Expire.p1.run k _ _ _ _ _ r h)
theorem erasureref30_Expire.p1.mono   : ∀ (k k' : Nat) (s1 : (List TCached)) (day2 : Int) (i8 : Int) (c3b : TCache) (out7 : (List TCached)) (r : (List TCached)), k ≤ k' → erasureref30_Expire.p1 k s1 day2 i8 c3b out7 = some r → erasureref30_Expire.p1 k' s1 day2 i8 c3b out7 = some r := by
  intro k
  induction k with
  | zero => intro k' s1 day2 i8 c3b out7 r hk h; simp [erasureref30_Expire.p1] at h
  | succ k ih =>
    intro k' s1 day2 i8 c3b out7 r hk h
    obtain ⟨k', rfl⟩ : ∃ m, k' = m + 1 := ⟨k' - 1, by omega⟩
    replace hk := Nat.le_of_succ_le_succ hk
    rw [erasureref30_Expire.p1] at h ⊢
    rcases ite_or h with ⟨g_7, h⟩ | ⟨g_7, h⟩
    · refine itp g_7 ?_
      obtain ⟨g_8, h⟩ := ite_some h
      refine itp g_8 ?_
      rcases ite_or h with ⟨g_9, h⟩ | ⟨g_9, h⟩
      · refine itp g_9 ?_
        rcases ite_or h with ⟨g_10, h⟩ | ⟨g_10, h⟩
        · refine itp g_10 ?_
          obtain ⟨g_11, h⟩ := ite_some h
          refine itp g_11 ?_
          exact ih _ _ _ _ _ _ r hk h
        · refine itn g_10 ?_
          exact ih _ _ _ _ _ _ r hk h
      · refine itn g_9 ?_
        exact ih _ _ _ _ _ _ r hk h
    · refine itn g_7 ?_
      exact h
theorem erasureref30_Expire.mono   : ∀ (k k' : Nat) (c0 : TCache) (s1 : (List TCached)) (day2 : Int) (r : (List TCached)), k ≤ k' → erasureref30_Expire k c0 s1 day2 = some r → erasureref30_Expire k' c0 s1 day2 = some r := by
  intro k k' c0 s1 day2 r hk h
  unfold erasureref30_Expire at h ⊢
  obtain ⟨y_1, e_2, h⟩ := bind_or h
  refine bnd (erasureref30_Valid.mono _ _ _ _ hk e_2) ?_
  rcases ite_or h with ⟨g_3, h⟩ | ⟨g_3, h⟩
  · refine itp g_3 ?_
    exact h
  · refine itn g_3 ?_
    obtain ⟨y_4, e_5, h⟩ := bind_or h
    refine bnd (erasureref30_ranged.mono _ _ _ _ _ hk e_5) ?_
    rcases ite_or h with ⟨g_6, h⟩ | ⟨g_6, h⟩
    · refine itp g_6 ?_
      exact h
    · refine itn g_6 ?_
      exact erasureref30_Expire.p1.mono _ _ _ _ _ _ _ r hk h
theorem erasureref30_Expire.spec {k : Nat} {c0 : TCache} {s1 : (List TCached)} {day2 : Int} {r : (List TCached)} (h : erasureref30_Expire k c0 s1 day2 = some r) : Spec Try.prog 26 [.agg ((cCache c0).map .p), .p (eL 5 cCached dCached s1), .p (.int .i64 day2)] (.sref 0 46 5 (r).length) [(oL true 46 5 cCached dCached (r))] :=
  spec_of mix Try.func26 (body := bodyOf Try.f26) (by kernel_rfl) (by kernel_rfl) (erasureref30_Expire.run h)
end Go.Proofs.YtjhnpaenhdbhpabV
set_option linter.unusedVariables false
set_option linter.unusedSimpArgs false
namespace Go.Proofs.YtjhnpaenhdbhpabV
open Go Go.RowKit
def Ev {α : Type} (g : Nat → Option α) (r : α) : Prop := ∃ K, ∀ k, K ≤ k → g k = some r
theorem Ev.now {α : Type} (r : α) : Ev (fun _ => some r) r := ⟨0, fun _ _ => rfl⟩
theorem Ev.any {α : Type} {g : Nat → Option α} {r : α} (h : ∀ k, g k = some r) : Ev g r := ⟨0, fun k _ => h k⟩
theorem Ev.done {α : Type} {a r : α} (h : a = r) : Ev (fun _ => some a) r := by subst h; exact Ev.now _
theorem Ev.bind {α β : Type} {f : Nat → Option α} {g : Nat → α → Option β} {a : α} {r : β} (h : Ev f a) (h' : Ev (fun k => g k a) r) : Ev (fun k => (f k).bind (g k)) r := by
  obtain ⟨K, h⟩ := h; obtain ⟨L, h'⟩ := h'
  exact ⟨max K L, fun k hk => by show (f k).bind (g k) = some r; rw [h k (by omega)]; exact h' k (by omega)⟩
theorem Ev.succ {α : Type} {g : Nat → Option α} {r : α} (h : Ev (fun k => g (k + 1)) r) : Ev g r := by
  obtain ⟨K, h⟩ := h
  exact ⟨K + 1, fun k hk => by obtain ⟨m, rfl⟩ : ∃ m, k = m + 1 := ⟨k - 1, by omega⟩; exact h m (by omega)⟩
theorem Ev.congr {α : Type} {f g : Nat → Option α} {r : α} (h : ∀ k, g k = f k) (k : Ev f r) : Ev g r := by rw [show g = f from funext h]; exact k
theorem Ev.ite_pos {α : Type} {g f : Nat → Option α} {r : α} {c : Prop} [Decidable c] (h : c) (k : Ev g r) : Ev (fun n => if c then g n else f n) r := Ev.congr (fun n => if_pos h) k
theorem Ev.ite_neg {α : Type} {g f : Nat → Option α} {r : α} {c : Prop} [Decidable c] (h : ¬ c) (k : Ev f r) : Ev (fun n => if c then g n else f n) r := Ev.congr (fun n => if_neg h) k
theorem Ev.of {α : Type} {g : Nat → Option α} {r : α} (m : ∀ k k', k ≤ k' → g k = some r → g k' = some r) {k : Nat} (h : g k = some r) : Ev g r := ⟨k, fun k' hk => m k k' hk h⟩
theorem Ev.some {α : Type} {g : Nat → Option α} {r : α} (h : Ev g r) : ∃ k, g k = Option.some r := by obtain ⟨K, h⟩ := h; exact ⟨K, h K (Nat.le_refl _)⟩
theorem Ev.to {α : Type} {g : Nat → Option α} {r s : α} (h : Ev g r) (e : r = s) : Ev g s := by subst e; exact h
theorem bytes_ext {a b : ByteArray} (h : a.data.toList = b.data.toList) : a = b := by
  cases a; cases b; congr 1; exact Array.toList_inj.1 h
theorem bytes_beq (a b : ByteArray) : (a.data.toList == b.data.toList) = decide (a = b) := by
  rw [Bool.eq_iff_iff, beq_iff_eq, decide_eq_true_eq]; exact ⟨bytes_ext, fun h => by rw [h]⟩
theorem loop_down {P : Nat → Prop} (n : Nat) (hend : P n) (hstep : ∀ i, i < n → P (i + 1) → P i) : ∀ i, i ≤ n → P i := by
  intro i hi
  have key : ∀ d i, i + d = n → P i := by
    intro d
    induction d with
    | zero => intro i h; have : i = n := by omega
              rw [this]; exact hend
    | succ d ih => intro i h; exact hstep i (by omega) (ih (i + 1) (by omega))
  exact key (n - i) i (by omega)
theorem wr {n : Int} (h : -9223372036854775808 ≤ n ∧ n ≤ 9223372036854775807) : IntKind.i64.wrap n = n := by rw [IntKind.wrap_i64]; omega
theorem wrn {i n : Nat} (h : i < n) (hn : n ≤ 9223372036854775807) : IntKind.i64.wrap ((i : Int) + 1) = ((i + 1 : Nat) : Int) := by rw [wr (by omega)]; omega
theorem wrp {i : Nat} (h : 0 < i) (hn : i ≤ 9223372036854775807) : IntKind.i64.wrap ((i : Int) - 1) = ((i - 1 : Nat) : Int) := by rw [wr (by omega)]; omega
theorem drop_cons {α : Type} (z : α) {l : List α} {i : Nat} (h : i < l.length) : l.drop i = l.getD (i : Int).toNat z :: l.drop (i + 1) := by
  rw [List.drop_eq_getElem_cons h]; simp [h]
theorem getD_mem {α : Type} (z : α) {l : List α} {i : Nat} (h : i < l.length) : l.getD (i : Int).toNat z ∈ l := by simp [h]
end Go.Proofs.YtjhnpaenhdbhpabV
set_option linter.unusedVariables false
set_option linter.unusedSimpArgs false
namespace Go.Proofs.YtjhnpaenhdbhpabV
open Go Go.RowKit
theorem V_ext {x y : TValue} (h0 : x.f0 = y.f0) (h1 : x.f1 = y.f1) (h2 : x.f2 = y.f2) : x = y := by cases x; cases y; simp_all
instance : DecidableEq TValue := fun x y => decidable_of_iff (x.f0 = y.f0 ∧ x.f1 = y.f1 ∧ x.f2 = y.f2) ⟨fun h => V_ext h.1 h.2.1 h.2.2, fun h => by subst h; exact ⟨rfl, rfl, rfl⟩⟩
def okV (x : TValue) : Bool :=
  if x.f0 = 0 then decide (x.f1 = 0) && decide (x.f2 = (⟨#[]⟩ : ByteArray))
  else if x.f0 = 1 then decide (-4294967296 ≤ x.f1 ∧ x.f1 ≤ 4294967296) && decide (x.f2 = (⟨#[]⟩ : ByteArray))
  else if x.f0 = 2 then decide (x.f1 = 0) && decide (x.f2.size ≤ 32)
  else false
def clV (x : TValue) : TValue := if okV x then x else ⟨0, 0, ⟨#[]⟩⟩
theorem beq_empty (a : ByteArray) : (a.data.toList == (#[] : Array UInt8).toList) = decide (a = (⟨#[]⟩ : ByteArray)) := bytes_beq a ⟨#[]⟩
theorem beq_nil (a : ByteArray) : (a.data.toList == ([] : List UInt8)) = decide (a = (⟨#[]⟩ : ByteArray)) := bytes_beq a ⟨#[]⟩
theorem value_Valid_eq (k : Nat) (v : TValue) : value_Valid k v = some (okV v) := by
  unfold value_Valid value_inRange okV
  simp only [beq_empty, beq_nil, beq_iff_eq, decide_eq_true_eq]
  generalize decide (v.f2 = (⟨#[]⟩ : ByteArray)) = q
  by_cases h0 : v.f0 = 0
  · simp only [if_pos h0]
    by_cases h1 : v.f1 = 0 <;> simp [h1]
  · simp only [if_neg h0]
    by_cases h1 : v.f0 = 1
    · simp only [if_pos h1]
      by_cases h2 : v.f1 ≥ -4294967296
      · rw [if_pos h2]; simp only [Option.bind_some, decide_eq_true_eq]
        by_cases h3 : v.f1 ≤ 4294967296
        · rw [if_pos h3]; simp [h3]; omega
        · rw [if_neg h3]; simp [h3]
      · rw [if_neg h2]; simp; omega
    · simp only [if_neg h1]
      by_cases h2 : v.f0 = 2
      · simp only [if_pos h2]
        by_cases h3 : v.f1 = 0
        · simp [h3]; omega
        · simp [h3]
      · simp [h2]
theorem ref01_Valid_eq (k : Nat) (v : TValue) : erasureref01_Valid k v = some (okV v) := by
  rw [← value_Valid_eq k]
  unfold erasureref01_Valid value_Valid value_inRange
  by_cases h0 : (v.f0 == 0) = true
  · simp only [if_pos h0]
  · simp only [if_neg h0]
    by_cases h1 : (v.f0 == 1) = true
    · simp only [if_pos h1]
      by_cases h2 : decide (v.f1 ≥ -4294967296) = true
      · simp only [if_pos h2, Option.bind_some]
      · simp only [if_neg h2, Option.bind_some, Bool.false_eq_true, if_false]
    · simp only [if_neg h1]
theorem value_Clean_eq (k : Nat) (x : TValue) : value_Clean k x = some (clV x) := by
  unfold value_Clean clV value_Clean.p1 value_Clean.p2
  rw [value_Valid_eq, Option.bind_some]
  by_cases h : okV x = true
  · rw [if_pos h, if_pos h]
  · rw [if_neg h, if_neg h]
theorem ref01_Clean_eq (k : Nat) (x : TValue) : erasureref01_Clean k x = some (clV x) := by
  unfold erasureref01_Clean clV erasureref01_Clean.p1 erasureref01_Clean.p2
  rw [ref01_Valid_eq, Option.bind_some]
  by_cases h : okV x = true
  · rw [if_pos h, if_pos h]
  · rw [if_neg h, if_neg h]
theorem eqV_iff (x y : TValue) : ((x.f0 == y.f0) && ((x.f1 == y.f1) && ((x.f2.data.toList == y.f2.data.toList) && true))) = decide (x = y) := by
  rw [bytes_beq, Bool.eq_iff_iff]
  simp only [Bool.and_eq_true, beq_iff_eq, decide_eq_true_eq, and_true]
  exact ⟨fun h => V_ext h.1 h.2.1 h.2.2, fun h => by subst h; exact ⟨rfl, rfl, rfl⟩⟩
theorem dV {l : List TValue} {i : Nat} (h : i < l.length) : l.drop i = l.getD (i : Int).toNat dValue :: l.drop (i + 1) := drop_cons _ h
theorem dE {l : List TEntry} {i : Nat} (h : i < l.length) : l.drop i = l.getD (i : Int).toNat dEntry :: l.drop (i + 1) := drop_cons _ h
end Go.Proofs.YtjhnpaenhdbhpabV
set_option linter.unusedVariables false
set_option linter.unusedSimpArgs false
namespace Go.Proofs.YtjhnpaenhdbhpabV
open Go Go.RowKit
theorem bytesLess_eq : ∀ (x y : List UInt8), Op.bytesLess x y = decide (x < y)
  | [], [] => by simp [Op.bytesLess]
  | _ :: _, [] => by simp [Op.bytesLess]
  | [], _ :: _ => by simp [Op.bytesLess]
  | a :: x, b :: y => by
    rw [Op.bytesLess, bytesLess_eq x y]
    simp only [List.cons_lt_cons_iff]
    by_cases h1 : a < b <;> by_cases h2 : a = b <;> by_cases h3 : x < y <;> simp [h1, h2, h3]
theorem gtr_flip (a b : List UInt8) : (!(Op.bytesLess a b || a == b)) = Op.bytesLess b a := by
  rw [bytesLess_eq, bytesLess_eq, Bool.eq_iff_iff]
  simp only [Bool.not_eq_true', Bool.or_eq_false_iff, decide_eq_false_iff_not, beq_eq_false_iff_ne, decide_eq_true_eq]
  constructor
  · rintro ⟨h1, h2⟩
    rcases Std.lt_trichotomy a b with h | h | h
    · exact absurd h h1
    · exact absurd h h2
    · exact h
  · intro h
    exact ⟨fun h1 => (List.lt_asymm h h1), fun h1 => by subst h1; exact List.lt_irrefl _ h⟩
theorem okV_z : okV (⟨0, 0, ⟨#[]⟩⟩ : TValue) = true := by decide +kernel
theorem okV_cl (x : TValue) : okV (clV x) = true := by
  unfold clV
  by_cases h : okV x = true
  · rw [if_pos h]; exact h
  · rw [if_neg h]; exact okV_z
theorem clV_ok {x : TValue} (h : okV x = true) : clV x = x := if_pos h
def cmpI (a b : Int) : Int := if a < b then -1 else if b < a then 1 else 0
def cmpB (a b : ByteArray) : Int := if a.data.toList < b.data.toList then -1 else if b.data.toList < a.data.toList then 1 else 0
def cmpC (a b : TValue) : Int := if a.f0 ≠ b.f0 then cmpI a.f0 b.f0 else if a.f0 = 1 then cmpI a.f1 b.f1 else cmpB a.f2 b.f2
def cmpV (x y : TValue) : Int := cmpC (clV x) (clV y)
theorem cmp_int_eq (k : Nat) (a b : Int) : cmp_Compare_int k a b = some (cmpI a b) := by
  unfold cmp_Compare_int cmp_isNaN_int cmpI
  simp only [Option.bind_some, bne_self_eq_false, Bool.false_eq_true, if_false, GT.gt, decide_eq_true_eq]
  repeat' split
  all_goals rfl
theorem cmp_int64_eq (k : Nat) (a b : Int) : cmp_Compare_int64 k a b = some (cmpI a b) := by
  unfold cmp_Compare_int64 cmp_isNaN_int64 cmpI
  simp only [Option.bind_some, bne_self_eq_false, Bool.false_eq_true, if_false, GT.gt, decide_eq_true_eq]
  repeat' split
  all_goals rfl
theorem cmp_string_eq (k : Nat) (a b : ByteArray) : cmp_Compare_string k a b = some (cmpB a b) := by
  unfold cmp_Compare_string cmp_isNaN_string cmpB
  simp only [gtr_flip]
  simp only [Option.bind_some, beq_self_eq_true, Bool.not_true, Bool.false_eq_true, if_false, bytesLess_eq, decide_eq_true_eq]
  repeat' split
  all_goals rfl
theorem value_Compare_eq (k : Nat) (x y : TValue) : value_Compare k x y = some (cmpV x y) := by
  unfold value_Compare cmpV cmpC
  rw [value_Clean_eq, value_Clean_eq]
  simp only [Option.bind_some, cmp_int_eq, cmp_int64_eq, cmp_string_eq, bne_iff_ne, beq_iff_eq]
  repeat' split
  all_goals rfl
theorem ok_cases {x : TValue} (h : okV x = true) : (x.f0 = 0 ∧ x.f1 = 0 ∧ x.f2 = (⟨#[]⟩ : ByteArray)) ∨ (x.f0 = 1 ∧ x.f2 = (⟨#[]⟩ : ByteArray)) ∨ (x.f0 = 2 ∧ x.f1 = 0) := by
  unfold okV at h
  by_cases h0 : x.f0 = 0
  · rw [if_pos h0] at h; simp at h; exact .inl ⟨h0, h.1, h.2⟩
  · rw [if_neg h0] at h
    by_cases h1 : x.f0 = 1
    · rw [if_pos h1] at h; simp at h; exact .inr (.inl ⟨h1, h.2⟩)
    · rw [if_neg h1] at h
      by_cases h2 : x.f0 = 2
      · rw [if_pos h2] at h; simp at h; exact .inr (.inr ⟨h2, h.1⟩)
      · rw [if_neg h2] at h; cases h
theorem cmpI_zero {a b : Int} : cmpI a b = 0 ↔ a = b := by unfold cmpI; split <;> (try split) <;> omega
theorem cmpI_neg {a b : Int} : cmpI a b < 0 ↔ a < b := by unfold cmpI; split <;> (try split) <;> omega
theorem listlt_tri (a b : List UInt8) : a < b ∨ a = b ∨ b < a := Std.lt_trichotomy a b
theorem cmpB_zero {a b : ByteArray} : cmpB a b = 0 ↔ a = b := by
  unfold cmpB
  by_cases h : a.data.toList < b.data.toList
  · rw [if_pos h]; exact ⟨fun e => by omega, fun e => by subst e; exact absurd h (List.lt_irrefl _)⟩
  · rw [if_neg h]
    by_cases h2 : b.data.toList < a.data.toList
    · rw [if_pos h2]; exact ⟨fun e => by omega, fun e => by subst e; exact absurd h2 (List.lt_irrefl _)⟩
    · rw [if_neg h2]
      exact ⟨fun _ => by rcases listlt_tri a.data.toList b.data.toList with h3 | h3 | h3
                         · exact absurd h3 h
                         · exact bytes_ext h3
                         · exact absurd h3 h2, fun _ => rfl⟩
theorem cmpB_neg {a b : ByteArray} : cmpB a b < 0 ↔ a.data.toList < b.data.toList := by
  unfold cmpB
  by_cases h : a.data.toList < b.data.toList
  · rw [if_pos h]; exact ⟨fun _ => h, fun _ => by omega⟩
  · rw [if_neg h]; exact ⟨fun e => by split at e <;> omega, fun e => absurd e h⟩
theorem cmpC_zero {a b : TValue} (ha : okV a = true) (hb : okV b = true) : cmpC a b = 0 ↔ a = b := by
  unfold cmpC
  by_cases h : a.f0 = b.f0
  · simp only [ne_eq, h, not_true, if_false]
    rcases ok_cases ha with ⟨a0, a1, a2⟩ | ⟨a0, a2⟩ | ⟨a0, a1⟩ <;> rcases ok_cases hb with ⟨b0, b1, b2⟩ | ⟨b0, b2⟩ | ⟨b0, b1⟩ <;> (try (rw [a0, b0] at h; omega))
    · rw [if_neg (by omega), cmpB_zero]; exact ⟨fun e => V_ext h (by omega) e, fun e => by rw [e]⟩
    · rw [if_pos b0, cmpI_zero]; exact ⟨fun e => V_ext h e (a2.trans b2.symm), fun e => by rw [e]⟩
    · rw [if_neg (by omega), cmpB_zero]; exact ⟨fun e => V_ext h (by omega) e, fun e => by rw [e]⟩
  · rw [if_pos h, cmpI_zero]; exact ⟨fun e => absurd e h, fun e => absurd (by rw [e]) h⟩
theorem cmpC_neg {a b : TValue} (ha : okV a = true) (hb : okV b = true) : cmpC a b < 0 ↔ (a.f0 < b.f0 ∨ (a.f0 = b.f0 ∧ (a.f1 < b.f1 ∨ a.f2.data.toList < b.f2.data.toList))) := by
  unfold cmpC
  by_cases h : a.f0 = b.f0
  · simp only [ne_eq, h, not_true, if_false, Int.lt_irrefl, false_or, true_and]
    rcases ok_cases ha with ⟨a0, a1, a2⟩ | ⟨a0, a2⟩ | ⟨a0, a1⟩ <;> rcases ok_cases hb with ⟨b0, b1, b2⟩ | ⟨b0, b2⟩ | ⟨b0, b1⟩ <;> (try (rw [a0, b0] at h; omega))
    · rw [if_neg (by omega), cmpB_neg, a1, b1]; simp
    · rw [if_pos b0, cmpI_neg, a2, b2]; exact ⟨.inl, fun e => e.elim id (fun e => absurd e (List.lt_irrefl _))⟩
    · rw [if_neg (by omega), cmpB_neg, a1, b1]; simp
  · rw [if_pos h, cmpI_neg]; exact ⟨.inl, fun e => e.elim id (fun e => absurd e.1 h)⟩
end Go.Proofs.YtjhnpaenhdbhpabV
set_option linter.unusedVariables false
set_option linter.unusedSimpArgs false
namespace Go.Proofs.YtjhnpaenhdbhpabV
open Go Go.RowKit
def cmpR : List TValue → List TValue → Int
  | [], [] => 0
  | [], _ :: _ => -1
  | _ :: _, [] => 1
  | x :: xs, y :: ys => if cmpV x y = 0 then cmpR xs ys else cmpV x y
theorem cmpR_nil (xs : List TValue) : cmpR xs [] = if xs.length = 0 then 0 else 1 := by cases xs <;> rfl
theorem nil_cmpR (ys : List TValue) : cmpR [] ys = if ys.length = 0 then 0 else -1 := by cases ys <;> rfl
theorem value_CompareRows_ev (xs ys : List TValue) (hx : xs.length ≤ 9223372036854775807) : Ev (fun k => value_CompareRows k xs ys) (cmpR xs ys) := by
  unfold value_CompareRows slices_CompareFunc_api_Value__value_Compare
  refine Ev.bind ?_ (Ev.now _)
  refine (loop_down (P := fun i => i ≤ ys.length → Ev (fun k => slices_CompareFunc_api_Value__value_Compare.p1 k xs ys xs (xs.length : Int) (i : Int)) (cmpR (xs.drop i) (ys.drop i))) xs.length ?_ ?_ 0 (by omega)) (by omega)
  · intro hy
    refine Ev.succ ?_
    simp only [slices_CompareFunc_api_Value__value_Compare.p1, decide_eq_true_eq]
    rw [List.drop_length, nil_cmpR, List.length_drop]
    refine Ev.ite_neg (by omega) ?_
    by_cases h : xs.length < ys.length
    · exact Ev.ite_pos (by omega) (Ev.done (by rw [if_neg (by omega)]))
    · exact Ev.ite_neg (by omega) (Ev.done (by rw [if_pos (by omega)]))
  · intro i hi ih hy
    refine Ev.succ ?_
    simp only [slices_CompareFunc_api_Value__value_Compare.p1, decide_eq_true_eq, value_Compare_eq, Option.bind_some, bne_iff_ne, ne_eq, ite_not]
    refine Ev.ite_pos (by omega) (Ev.ite_pos (by omega) ?_)
    by_cases h : i < ys.length
    · refine Ev.ite_neg (by omega) (Ev.ite_pos (by omega) ?_)
      rw [dV hi, dV h, wrn hi hx]
      unfold cmpR
      by_cases hc : cmpV (xs.getD (i : Int).toNat dValue) (ys.getD (i : Int).toNat dValue) = 0
      · rw [if_pos hc]; exact Ev.ite_pos hc (ih (by omega))
      · rw [if_neg hc]; exact Ev.ite_neg hc (Ev.now _)
    · rw [List.drop_eq_nil_of_le (show ys.length ≤ i by omega), cmpR_nil, List.length_drop, if_neg (by omega)]
      exact Ev.ite_pos (by omega) (Ev.now _)
def okRow (l : List TValue) : Bool := l.all okV && decide (l.length ≤ 16)
theorem value_ValidRow_ev (l : List TValue) (hl : l.length ≤ 9223372036854775807) : Ev (fun k => value_ValidRow k l) (okRow l) := by
  unfold value_ValidRow
  refine (loop_down (P := fun i => Ev (fun k => value_ValidRow.p1 k l l (l.length : Int) (i : Int)) ((l.drop i).all okV && decide (l.length ≤ 16))) l.length ?_ ?_ 0 (by omega))
  · refine Ev.succ ?_
    simp only [value_ValidRow.p1, decide_eq_true_eq]
    rw [List.drop_length]
    refine Ev.ite_neg (by omega) (Ev.done ?_)
    simp; omega
  · intro i hi ih
    refine Ev.succ ?_
    simp only [value_ValidRow.p1, value_Valid_eq, Option.bind_some, decide_eq_true_eq]
    refine Ev.ite_pos (by omega) (Ev.ite_pos (by omega) ?_)
    rw [dV hi, wrn hi hl, List.all_cons]
    cases hc : okV (l.getD (i : Int).toNat dValue) with
    | true => exact Ev.ite_neg (by simp) ih
    | false => exact Ev.ite_pos rfl (Ev.now _)
def okE (e : TEntry) : Bool := okRow e.f0 && decide (-262144 ≤ e.f1 ∧ e.f1 ≤ 262144)
theorem countFits_eq (k : Nat) (n : Int) : bag_countFits k n = some (decide (-262144 ≤ n ∧ n ≤ 262144)) := by
  unfold bag_countFits
  simp only [decide_eq_true_eq]
  by_cases h : n ≥ -262144
  · rw [if_pos h]; simp; omega
  · rw [if_neg h]; simp; omega
theorem entryFits_ev (e : TEntry) (hl : e.f0.length ≤ 9223372036854775807) : Ev (fun k => bag_entryFits k e) (okE e) := by
  unfold bag_entryFits okE
  refine Ev.bind (value_ValidRow_ev _ hl) ?_
  cases hc : okRow e.f0 with
  | true => simp only [if_true, countFits_eq, Option.bind_some, Bool.true_and]; exact Ev.now _
  | false => simp only [Bool.false_eq_true, if_false, Bool.false_and]; exact Ev.now _
def bvF : Option TEntry → List TEntry → Bool
  | _, [] => true
  | none, e :: l => okE e && !decide (e.f1 = 0) && bvF (some e) l
  | some p, e :: l => okE e && !decide (e.f1 = 0) && decide (cmpR p.f0 e.f0 < 0) && bvF (some e) l
def bagV (l : List TEntry) : Bool := bvF none l && decide (l.length ≤ 4096)
def prevE (l : List TEntry) (i : Nat) : Option TEntry := if i = 0 then none else some (l.getD ((i - 1 : Nat) : Int).toNat dEntry)
def Fin (l : List TEntry) : Prop := l.length ≤ 9223372036854775807 ∧ ∀ e ∈ l, e.f0.length ≤ 9223372036854775807
theorem Fin.at {l : List TEntry} (h : Fin l) {i : Nat} (hi : i < l.length) : (l.getD (i : Int).toNat dEntry).f0.length ≤ 9223372036854775807 := h.2 _ (getD_mem _ hi)
theorem bag_Valid_ev (l : List TEntry) (hl : Fin l) : Ev (fun k => bag_Valid k l) (bagV l) := by
  unfold bag_Valid
  refine (loop_down (P := fun i => Ev (fun k => bag_Valid.p1 k l l (l.length : Int) (i : Int)) (bvF (prevE l i) (l.drop i) && decide (l.length ≤ 4096))) l.length ?_ ?_ 0 (by omega))
  · refine Ev.succ ?_
    simp only [bag_Valid.p1, decide_eq_true_eq]
    rw [List.drop_length]
    refine Ev.ite_neg (by omega) (Ev.done ?_)
    simp [bvF]; omega
  · intro i hi ih
    have hp : prevE l (i + 1) = some (l.getD (i : Int).toNat dEntry) := by simp [prevE]
    rw [hp] at ih
    refine Ev.succ ?_
    simp only [bag_Valid.p1, decide_eq_true_eq, beq_iff_eq]
    refine Ev.ite_pos (by omega) (Ev.ite_pos (by omega) (Ev.bind (entryFits_ev _ (hl.at hi)) ?_))
    rw [dE hi, wrn hi hl.1]
    cases hc : okE (l.getD (i : Int).toNat dEntry) with
    | false => refine Ev.ite_pos rfl (Ev.done ?_); unfold bvF; cases prevE l i <;> simp only [hc, Bool.false_and]
    | true =>
      refine Ev.ite_neg (by simp) ?_
      by_cases hz : (l.getD (i : Int).toNat dEntry).f1 = 0
      · refine Ev.ite_pos hz (Ev.done ?_); unfold bvF; cases prevE l i <;> simp only [hz, decide_true, Bool.not_true, Bool.and_false, Bool.false_and]
      · refine Ev.ite_neg hz ?_
        by_cases h0 : i = 0
        · subst h0
          refine Ev.ite_neg (by omega) (ih.to ?_)
          simp only [prevE, if_true, bvF, hc, decide_eq_false hz, Bool.not_false, Bool.and_self, Bool.true_and]
        · have hl1 := hl.1
          rw [wrp (by omega) (by omega)]
          refine Ev.ite_pos (by omega) (Ev.ite_pos (by omega) (Ev.bind (value_CompareRows_ev _ _ (hl.at (show i - 1 < l.length by omega))) ?_))
          simp only [prevE, if_neg h0, bvF, hc, decide_eq_false hz, Bool.not_false, Bool.true_and]
          by_cases hcmp : cmpR (l.getD ((i - 1 : Nat) : Int).toNat dEntry).f0 (l.getD (i : Int).toNat dEntry).f0 < 0
          · rw [decide_eq_true hcmp]; exact Ev.ite_neg (by omega) (by simpa using ih)
          · rw [decide_eq_false hcmp]; exact Ev.ite_pos (by omega) (Ev.now _)
end Go.Proofs.YtjhnpaenhdbhpabV
set_option linter.unusedVariables false
set_option linter.unusedSimpArgs false
set_option maxRecDepth 100000
namespace Go.Proofs.YtjhnpaenhdbhpabV
open Go Go.RowKit
noncomputable def erasureref30_at  (k : Nat) (row0 : (List TValue)) (column1 : Int) : Option TValue := if (decide (column1 < 0)) = true then (some (TValue.mk 0 0 (⟨#[]⟩ : ByteArray))) else (if (decide (column1 ≥ ((row0).length : Int))) = true then (some (TValue.mk 0 0 (⟨#[]⟩ : ByteArray))) else (if 0 ≤ column1 ∧ column1 < ((row0).length : Int) then ((erasureref01_Clean k (row0.getD column1.toNat dValue)).bind fun y_4 => (some y_4)) else none))
noncomputable def erasureref30_at.t : List Item := [.code (bodyOf Try.f40)]
noncomputable def erasureref30_at.s (row0 : (List TValue)) (column1 : Int) : St := ⟨frOf Try.f40.ntmps 0 [(0, .p (eL 3 cValue dValue row0)), (1, .p (.int .i64 column1))], []⟩
theorem erasureref30_at.run   {k : Nat} {row0 : (List TValue)} {column1 : Int} {r : TValue} (h : erasureref30_at k row0 column1 = some r) : RunC Try.prog Try.f40 erasureref30_at.t (erasureref30_at.s row0 column1) (.agg ((cValue r).map .p)) [] := by
  unfold erasureref30_at at h
  rcases ite_or h with ⟨g_1, h⟩ | ⟨g_1, h⟩
  · obtain rfl := Option.some.inj h
    exact RunC.out [.n 4, .r [(2, .dec true)], .n 3] (by kernel_rfl) (Obs.of (by kernel_rfl) g_1)
  · rcases ite_or h with ⟨g_2, h⟩ | ⟨g_2, h⟩
    · obtain rfl := Option.some.inj h
      exact RunC.out [.n 4, .r [(2, .dec false), (7, .dec true)], .n 3] (by kernel_rfl) (Obs.of (by kernel_rfl) (And.intro (nt g_1) g_2))
    · obtain ⟨g_3, h⟩ := ite_some h
      obtain ⟨y_4, e_5, h⟩ := bind_or h
      obtain rfl := Option.some.inj h
      exact RunC.out [.n 4, .r [(2, .dec false), (7, .dec false)], .n 3, .r [(4, .call (.agg ((cValue y_4).map .p)) [])]] (by kernel_rfl) (Obs.of (by kernel_rfl) (And.intro (nt g_1) (And.intro (nt g_2) (And.intro g_3 (erasureref01_Clean.spec e_5)))))
theorem erasureref30_at.mono   : ∀ (k k' : Nat) (row0 : (List TValue)) (column1 : Int) (r : TValue), k ≤ k' → erasureref30_at k row0 column1 = some r → erasureref30_at k' row0 column1 = some r := by
  intro k k' row0 column1 r hk h
  unfold erasureref30_at at h ⊢
  rcases ite_or h with ⟨g_1, h⟩ | ⟨g_1, h⟩
  · refine itp g_1 ?_
    exact h
  · refine itn g_1 ?_
    rcases ite_or h with ⟨g_2, h⟩ | ⟨g_2, h⟩
    · refine itp g_2 ?_
      exact h
    · refine itn g_2 ?_
      obtain ⟨g_3, h⟩ := ite_some h
      refine itp g_3 ?_
      obtain ⟨y_4, e_5, h⟩ := bind_or h
      refine bnd (erasureref01_Clean.mono _ _ _ _ hk e_5) ?_
      exact h
theorem erasureref30_at.spec {k : Nat} {row0 : (List TValue)} {column1 : Int} {r : TValue} (h : erasureref30_at k row0 column1 = some r) : Spec Try.prog 40 [.p (eL 3 cValue dValue row0), .p (.int .i64 column1)] (.agg ((cValue r).map .p)) [] :=
  spec_of mix Try.func40 (body := bodyOf Try.f40) (by kernel_rfl) (by kernel_rfl) (erasureref30_at.run h)
end Go.Proofs.YtjhnpaenhdbhpabV
set_option linter.unusedVariables false
set_option linter.unusedSimpArgs false
set_option maxRecDepth 100000
namespace Go.Proofs.YtjhnpaenhdbhpabV
open Go Go.RowKit
noncomputable def erasureref30_Select.p1  : Nat → (List TEntry) → Int → Int → TValue → (List TEntry) → Option (List TEntry)
  | 0, _, _, _, _, _ => none
  | k + 1, rows0, column1, i8, v5b, out7 => if (decide (i8 < ((rows0).length : Int))) = true then (if 0 ≤ i8 ∧ i8 < ((rows0).length : Int) then ((erasureref30_at k ((rows0.getD i8.toNat dEntry).f0) column1).bind fun y_3 => ((erasureref01_Clean k v5b).bind fun y_5 => (if ((y_3.f0 == y_5.f0) && ((y_3.f1 == y_5.f1) && ((y_3.f2.data.toList == y_5.f2.data.toList) && true))) = true then (if (out7).length + ([(rows0.getD i8.toNat dEntry)]).length ≤ maxLen ∧ ((out7).length + ([(rows0.getD i8.toNat dEntry)]).length) * 32 ≤ 140737488355328 then (erasureref30_Select.p1 k rows0 column1 (IntKind.i64.wrap (i8 + 1)) v5b (out7 ++ ([(rows0.getD i8.toNat dEntry)]))) else none) else (erasureref30_Select.p1 k rows0 column1 (IntKind.i64.wrap (i8 + 1)) v5b out7)))) else none) else (some out7)
noncomputable def erasureref30_Select  (k : Nat) (rows0 : (List TEntry)) (column1 : Int) (v2 : TValue) : Option (List TEntry) := erasureref30_Select.p1 k rows0 column1 0 v2 ([] : List TEntry)
noncomputable def erasureref30_Select.t : List Item := [.code (bodyOf Try.f15)]
noncomputable def erasureref30_Select.s (rows0 : (List TEntry)) (column1 : Int) (v2 : TValue) : St := ⟨frOf Try.f15.ntmps 0 [(0, .p (eL 2 cEntry dEntry rows0)), (1, .p (.int .i64 column1)), (2, .agg ((cValue v2).map .p))], []⟩
noncomputable def erasureref30_Select.p1.t : List Item := nav 9 [] erasureref30_Select.t
noncomputable def erasureref30_Select.p1.s (rows0 : (List TEntry)) (column1 : Int) (i8 : Int) (v5b : TValue) (out7 : (List TEntry)) : St := ⟨frOf Try.f15.ntmps 0 [(0, .p (eL 2 cEntry dEntry rows0)), (1, .p (.int .i64 column1)), (5, .ptr 0 0 0), (7, .sref 1 36 2 (out7).length), (8, .p (.int .i64 i8))], [.box ((cValue v5b).map .p), (oL true 36 2 cEntry dEntry out7)]⟩
theorem erasureref30_Select.p1.run   : ∀ (k : Nat) (rows0 : (List TEntry)) (column1 : Int) (i8 : Int) (v5b : TValue) (out7 : (List TEntry)) (r : (List TEntry)), erasureref30_Select.p1 k rows0 column1 i8 v5b out7 = some r → RunC Try.prog Try.f15 erasureref30_Select.p1.t (erasureref30_Select.p1.s rows0 column1 i8 v5b out7) (.sref 0 36 2 (r).length) [(oL true 36 2 cEntry dEntry (r))] := by
  intro k
  induction k with
  | zero => intro rows0 column1 i8 v5b out7 r h; simp [erasureref30_Select.p1] at h
  | succ k ih =>
    intro rows0 column1 i8 v5b out7 r h
    rw [erasureref30_Select.p1] at h
    rcases ite_or h with ⟨g_1, h⟩ | ⟨g_1, h⟩
    · obtain ⟨g_2, h⟩ := ite_some h
      obtain ⟨y_3, e_4, h⟩ := bind_or h
      obtain ⟨y_5, e_6, h⟩ := bind_or h
      rcases ite_or h with ⟨g_7, h⟩ | ⟨g_7, h⟩
      · obtain ⟨g_8, h⟩ := ite_some h
        exact RunC.go [.n 2, .r [(3, .dec true)], .n 5, .r [(6, .call (.agg ((cValue y_3).map .p)) []), (8, .call (.agg ((cValue y_5).map .p)) []), (9, .dec true)], .n 1, .r [(5, .obj (oL true 36 2 cEntry dEntry [(rows0.getD i8.toNat dEntry)])), (6, .obj (oL true 36 2 cEntry dEntry (out7 ++ ([(rows0.getD i8.toNat dEntry)]))))], .n 3, .k [0, 1, 5, 7, 8]] (by kernel_rfl) (Obs.of (by kernel_rfl) (And.intro g_1 (And.intro g_2 (And.intro (erasureref30_at.spec e_4) (And.intro (erasureref01_Clean.spec e_6) (And.intro g_7 (And.intro g_2 (And.intro (le_one 36 2 cEntry dEntry (rows0.getD i8.toNat dEntry)) (And.intro g_8 (le_app 36 2 cEntry dEntry out7 ([(rows0.getD i8.toNat dEntry)]))))))))))) (ih _ _ _ _ _ r h)
      · exact RunC.go [.n 2, .r [(3, .dec true)], .n 5, .r [(6, .call (.agg ((cValue y_3).map .p)) []), (8, .call (.agg ((cValue y_5).map .p)) []), (9, .dec false)], .n 5, .k [0, 1, 5, 7, 8]] (by kernel_rfl) (Obs.of (by kernel_rfl) (And.intro g_1 (And.intro g_2 (And.intro (erasureref30_at.spec e_4) (And.intro (erasureref01_Clean.spec e_6) (nt g_7)))))) (ih _ _ _ _ _ r h)
    · obtain rfl := Option.some.inj h
      exact RunC.out [.n 2, .r [(3, .dec false)], .n 4] (by kernel_rfl) (Obs.of (by kernel_rfl) (nt g_1))
theorem erasureref30_Select.run   {k : Nat} {rows0 : (List TEntry)} {column1 : Int} {v2 : TValue} {r : (List TEntry)} (h : erasureref30_Select k rows0 column1 v2 = some r) : RunC Try.prog Try.f15 erasureref30_Select.t (erasureref30_Select.s rows0 column1 v2) (.sref 0 36 2 (r).length) [(oL true 36 2 cEntry dEntry (r))] := by
  unfold erasureref30_Select at h
  exact RunC.go [.n 1, .r [(1, .obj (oL true 36 2 cEntry dEntry ([] : List TEntry)))], .n 1, .r [(0, .obj (oL true 36 2 cEntry dEntry ([] : List TEntry)))], .n 5, .k [0, 1, 5, 7, 8]] (by kernel_rfl) (Obs.of (by kernel_rfl) (And.intro (le_nil 36 2 cEntry dEntry) (le_nil 36 2 cEntry dEntry))) (erasureref30_Select.p1.run k _ _ _ _ _ r h)
theorem erasureref30_Select.p1.mono   : ∀ (k k' : Nat) (rows0 : (List TEntry)) (column1 : Int) (i8 : Int) (v5b : TValue) (out7 : (List TEntry)) (r : (List TEntry)), k ≤ k' → erasureref30_Select.p1 k rows0 column1 i8 v5b out7 = some r → erasureref30_Select.p1 k' rows0 column1 i8 v5b out7 = some r := by
  intro k
  induction k with
  | zero => intro k' rows0 column1 i8 v5b out7 r hk h; simp [erasureref30_Select.p1] at h
  | succ k ih =>
    intro k' rows0 column1 i8 v5b out7 r hk h
    obtain ⟨k', rfl⟩ : ∃ m, k' = m + 1 := ⟨k' - 1, by omega⟩
    replace hk := Nat.le_of_succ_le_succ hk
    rw [erasureref30_Select.p1] at h ⊢
    rcases ite_or h with ⟨g_1, h⟩ | ⟨g_1, h⟩
    · refine itp g_1 ?_
      obtain ⟨g_2, h⟩ := ite_some h
      refine itp g_2 ?_
      obtain ⟨y_3, e_4, h⟩ := bind_or h
      refine bnd (erasureref30_at.mono _ _ _ _ _ hk e_4) ?_
      obtain ⟨y_5, e_6, h⟩ := bind_or h
      refine bnd (erasureref01_Clean.mono _ _ _ _ hk e_6) ?_
      rcases ite_or h with ⟨g_7, h⟩ | ⟨g_7, h⟩
      · refine itp g_7 ?_
        obtain ⟨g_8, h⟩ := ite_some h
        refine itp g_8 ?_
        exact ih _ _ _ _ _ _ r hk h
      · refine itn g_7 ?_
        exact ih _ _ _ _ _ _ r hk h
    · refine itn g_1 ?_
      exact h
theorem erasureref30_Select.mono   : ∀ (k k' : Nat) (rows0 : (List TEntry)) (column1 : Int) (v2 : TValue) (r : (List TEntry)), k ≤ k' → erasureref30_Select k rows0 column1 v2 = some r → erasureref30_Select k' rows0 column1 v2 = some r := by
  intro k k' rows0 column1 v2 r hk h
  unfold erasureref30_Select at h ⊢
  exact erasureref30_Select.p1.mono _ _ _ _ _ _ _ r hk h
theorem erasureref30_Select.spec {k : Nat} {rows0 : (List TEntry)} {column1 : Int} {v2 : TValue} {r : (List TEntry)} (h : erasureref30_Select k rows0 column1 v2 = some r) : Spec Try.prog 15 [.p (eL 2 cEntry dEntry rows0), .p (.int .i64 column1), .agg ((cValue v2).map .p)] (.sref 0 36 2 (r).length) [(oL true 36 2 cEntry dEntry (r))] :=
  spec_of mix Try.func15 (body := bodyOf Try.f15) (by kernel_rfl) (by kernel_rfl) (erasureref30_Select.run h)
end Go.Proofs.YtjhnpaenhdbhpabV
set_option linter.unusedVariables false
set_option linter.unusedSimpArgs false
namespace Go.Proofs.YtjhnpaenhdbhpabV
open Go Go.RowKit
def atV (row : List TValue) (c : Int) : TValue := if c < 0 then ⟨0, 0, ⟨#[]⟩⟩ else if c ≥ (row.length : Int) then ⟨0, 0, ⟨#[]⟩⟩ else clV (row.getD c.toNat dValue)
theorem cache_at_eq (k : Nat) (row : List TValue) (c : Int) : cache_at k row c = some (atV row c) := by
  unfold cache_at atV
  simp only [decide_eq_true_eq]
  by_cases h1 : c < 0
  · rw [if_pos h1, if_pos h1]
  rw [if_neg h1, if_neg h1]
  by_cases h2 : c ≥ (row.length : Int)
  · rw [if_pos h2, if_pos h2]
  rw [if_neg h2, if_neg h2, if_pos (by omega), value_Clean_eq]; rfl
def selS (l : List TEntry) (c : Int) (v : TValue) : List TEntry := l.filter fun e => decide (atV e.f0 c = v)
theorem copied_ev (l : List TEntry) (hl : l.length ≤ 1099511627776) (hr : ∀ e ∈ l, e.f0.length ≤ 1099511627776) : Ev (fun k => cache_copied k l) l := by
  unfold cache_copied
  have key : ∀ i, i ≤ l.length → ∀ acc : List TEntry, acc.length = i → Ev (fun k => cache_copied.p1 k l (i : Int) acc) (acc ++ l.drop i) := by
    refine loop_down (P := fun i => ∀ acc : List TEntry, acc.length = i → Ev (fun k => cache_copied.p1 k l (i : Int) acc) (acc ++ l.drop i)) l.length ?_ ?_
    · intro acc _
      refine Ev.succ ?_
      simp only [cache_copied.p1, decide_eq_true_eq]
      rw [List.drop_length]
      exact Ev.ite_neg (by omega) (Ev.done (by simp))
    · intro i hi ih acc ha
      refine Ev.succ ?_
      simp only [cache_copied.p1, decide_eq_true_eq]
      have hr1 := hr _ (getD_mem dEntry hi)
      refine Ev.ite_pos (by omega) (Ev.ite_pos (by omega) (Ev.ite_pos (by simp only [maxLen]; omega) (Ev.ite_pos (by simp only [maxLen, List.length_singleton]; omega) ?_)))
      rw [dE hi, wrn hi (by omega)]
      exact (ih (acc ++ [l.getD (i : Int).toNat dEntry]) (by simp [ha])).to (by simp)
  simpa using key 0 (by omega) [] rfl
theorem sel_ev (l : List TEntry) (c : Int) (v : TValue) (hl : l.length ≤ 1099511627776) (hr : ∀ e ∈ l, e.f0.length ≤ 1099511627776) : Ev (fun k => cache_Select k l c v) (selS l c (clV v)) := by
  unfold cache_Select
  simp only [value_Clean_eq, Option.bind_some]
  have key : ∀ i, i ≤ l.length → ∀ acc : List TEntry, acc.length ≤ i → (∀ e ∈ acc, e.f0.length ≤ 1099511627776) → Ev (fun k => cache_Select.p1 k l c (i : Int) (clV v) acc) (acc ++ selS (l.drop i) c (clV v)) := by
    refine loop_down (P := fun i => ∀ acc : List TEntry, acc.length ≤ i → (∀ e ∈ acc, e.f0.length ≤ 1099511627776) → Ev (fun k => cache_Select.p1 k l c (i : Int) (clV v) acc) (acc ++ selS (l.drop i) c (clV v))) l.length ?_ ?_
    · intro acc ha hr0
      refine Ev.succ ?_
      simp only [cache_Select.p1, decide_eq_true_eq]
      rw [List.drop_length]
      refine Ev.ite_neg (by omega) ?_
      simp only [selS, List.filter_nil, List.append_nil]
      exact Ev.bind (copied_ev acc (by omega) hr0) (Ev.now _)
    · intro i hi ih acc ha hr0
      refine Ev.succ ?_
      simp only [cache_Select.p1, cache_at_eq, Option.bind_some, eqV_iff, decide_eq_true_eq]
      refine Ev.ite_pos (by omega) (Ev.ite_pos (by omega) ?_)
      rw [dE hi, wrn hi (by omega)]
      by_cases h : atV (l.getD (i : Int).toNat dEntry).f0 c = clV v
      · refine Ev.ite_pos h (Ev.ite_pos (by simp only [maxLen, List.length_singleton]; omega) ?_)
        exact (ih (acc ++ [l.getD (i : Int).toNat dEntry]) (by simp; omega) (by intro e he; rcases List.mem_append.1 he with he | he; exact hr0 e he; rw [List.mem_singleton] at he; subst he; exact hr _ (getD_mem _ hi))).to (by simp only [selS, List.filter_cons, h, decide_true, if_true, List.append_assoc, List.singleton_append])
      · exact Ev.ite_neg h ((ih acc (by omega) hr0).to (by simp only [selS, List.filter_cons, h, decide_false, Bool.false_eq_true, if_false]))
  exact key 0 (by omega) [] (by simp) (by simp)
end Go.Proofs.YtjhnpaenhdbhpabV
set_option linter.unusedVariables false
set_option linter.unusedSimpArgs false
namespace Go.Proofs.YtjhnpaenhdbhpabV
open Go Go.RowKit
def okD (n : Int) : Bool := decide (0 ≤ n ∧ n ≤ 1048576)
theorem inDays_eq (k : Nat) (n : Int) : cache_inDays k n = some (okD n) := by
  unfold cache_inDays okD
  simp only [decide_eq_true_eq]
  by_cases h : n ≥ 0
  · rw [if_pos h]; simp; omega
  · rw [if_neg h]; simp; omega
def ctF : Option TCached → List TCached → Bool
  | _, [] => true
  | none, x :: l => okV x.f0 && (bagV x.f1 && (okD x.f2 && ctF (some x) l))
  | some p, x :: l => okV x.f0 && (decide (cmpV p.f0 x.f0 < 0) && (bagV x.f1 && (okD x.f2 && ctF (some x) l)))
def cacheV (l : List TCached) : Bool := ctF none l && decide (l.length ≤ 16)
def prevC (l : List TCached) (i : Nat) : Option TCached := if i = 0 then none else some (l.getD ((i - 1 : Nat) : Int).toNat dCached)
theorem dC {l : List TCached} {i : Nat} (h : i < l.length) : l.drop i = l.getD (i : Int).toNat dCached :: l.drop (i + 1) := drop_cons _ h
def FinC (l : List TCached) : Prop := l.length ≤ 9223372036854775807 ∧ ∀ x ∈ l, Fin x.f1
theorem cache_Valid_ev (l : List TCached) (hl : FinC l) : Ev (fun k => cache_Valid k l) (cacheV l) := by
  unfold cache_Valid cacheV
  simp only [decide_eq_true_eq]
  by_cases hn : l.length ≤ 16
  · rw [decide_eq_true hn, Bool.and_true]
    refine Ev.ite_neg (by omega) ?_
    refine (loop_down (P := fun i => Ev (fun k => cache_Valid.p1 k l (i : Int)) (ctF (prevC l i) (l.drop i))) l.length ?_ ?_ 0 (by omega))
    · refine Ev.succ ?_
      simp only [cache_Valid.p1, decide_eq_true_eq]
      rw [List.drop_length]
      refine Ev.ite_neg (by omega) (Ev.done ?_)
      cases prevC l l.length <;> rfl
    · intro i hi ih
      have hp : prevC l (i + 1) = some (l.getD (i : Int).toNat dCached) := by simp [prevC]
      rw [hp] at ih
      refine Ev.succ ?_
      simp only [cache_Valid.p1, decide_eq_true_eq, value_Valid_eq, value_Compare_eq, inDays_eq, Option.bind_some]
      refine Ev.ite_pos (by omega) (Ev.ite_pos (by omega) ?_)
      rw [dC hi, wrn hi hl.1]
      have hf := hl.2 _ (getD_mem dCached hi)
      have tail : Ev (fun k => (bag_Valid k ((l.getD (i : Int).toNat dCached).f1)).bind fun y_18 => (if (!y_18) = true then (some false) else (if (!okD ((l.getD (i : Int).toNat dCached).f2)) = true then (some false) else (cache_Valid.p1 k l ((i + 1 : Nat) : Int)))))
          (bagV (l.getD (i : Int).toNat dCached).f1 && (okD (l.getD (i : Int).toNat dCached).f2 && ctF (some (l.getD (i : Int).toNat dCached)) (l.drop (i + 1)))) := by
        refine Ev.bind (bag_Valid_ev _ hf) ?_
        cases hb : bagV (l.getD (i : Int).toNat dCached).f1 with
        | false => exact Ev.ite_pos rfl (Ev.now _)
        | true =>
          refine Ev.ite_neg (by simp) ?_
          cases hd : okD (l.getD (i : Int).toNat dCached).f2 with
          | false => exact Ev.ite_pos rfl (Ev.now _)
          | true => exact Ev.ite_neg (by simp) ih
      cases hv : okV (l.getD (i : Int).toNat dCached).f0 with
      | false => refine Ev.ite_pos rfl (Ev.done ?_); unfold ctF; cases prevC l i <;> simp only [hv, Bool.false_and]
      | true =>
        refine Ev.ite_neg (by simp) ?_
        by_cases h0 : i = 0
        · subst h0
          refine Ev.ite_neg (by omega) (tail.to ?_)
          simp only [prevC, if_true, ctF, hv, Bool.true_and]
        · have hl1 := hl.1
          rw [wrp (by omega) (by omega)]
          refine Ev.ite_pos (by omega) (Ev.ite_pos (by omega) ?_)
          simp only [prevC, if_neg h0, ctF, hv, Bool.true_and]
          by_cases hc : cmpV (l.getD ((i - 1 : Nat) : Int).toNat dCached).f0 (l.getD (i : Int).toNat dCached).f0 < 0
          · rw [decide_eq_true hc, Bool.true_and]; exact Ev.ite_neg (by omega) tail
          · rw [decide_eq_false hc, Bool.false_and]; exact Ev.ite_pos (by omega) (Ev.now _)
  · rw [decide_eq_false hn, Bool.and_false]
    exact Ev.ite_pos (by omega) (Ev.now _)
end Go.Proofs.YtjhnpaenhdbhpabV
set_option linter.unusedVariables false
set_option linter.unusedSimpArgs false
namespace Go.Proofs.YtjhnpaenhdbhpabV
open Go Go.RowKit
theorem bvF_mem : ∀ (l : List TEntry) (p : Option TEntry), bvF p l = true → ∀ e ∈ l, okE e = true
  | [], _, _, e, he => by cases he
  | x :: l, p, h, e, he => by
    have h1 : okE x = true ∧ bvF (some x) l = true := by
      cases p <;> simp only [bvF, Bool.and_eq_true] at h
      · exact ⟨h.1.1, h.2⟩
      · exact ⟨h.1.1.1, h.2⟩
    rcases List.mem_cons.1 he with rfl | he
    · exact h1.1
    · exact bvF_mem l _ h1.2 e he
theorem bagV_mem {l : List TEntry} (h : bagV l = true) : ∀ e ∈ l, okE e = true := by
  simp only [bagV, Bool.and_eq_true] at h
  exact bvF_mem l none h.1
theorem bagV_len {l : List TEntry} (h : bagV l = true) : l.length ≤ 4096 := by
  simp only [bagV, Bool.and_eq_true, decide_eq_true_eq] at h
  exact h.2
theorem okE_len {e : TEntry} (h : okE e = true) : e.f0.length ≤ 16 := by
  simp only [okE, okRow, Bool.and_eq_true, decide_eq_true_eq] at h
  exact h.1.2
theorem ctF_mem : ∀ (l : List TCached) (p : Option TCached), ctF p l = true → ∀ x ∈ l, okV x.f0 = true ∧ bagV x.f1 = true ∧ okD x.f2 = true
  | [], _, _, x, hx => by cases hx
  | y :: l, p, h, x, hx => by
    have h1 : (okV y.f0 = true ∧ bagV y.f1 = true ∧ okD y.f2 = true) ∧ ctF (some y) l = true := by
      cases p <;> simp only [ctF, Bool.and_eq_true] at h
      · exact ⟨⟨h.1, h.2.1, h.2.2.1⟩, h.2.2.2⟩
      · exact ⟨⟨h.1, h.2.2.1, h.2.2.2.1⟩, h.2.2.2.2⟩
    rcases List.mem_cons.1 hx with rfl | hx
    · exact h1.1
    · exact ctF_mem l _ h1.2 x hx
theorem cacheV_mem {l : List TCached} (h : cacheV l = true) : ∀ x ∈ l, okV x.f0 = true ∧ bagV x.f1 = true ∧ okD x.f2 = true := by
  simp only [cacheV, Bool.and_eq_true] at h
  exact ctF_mem l none h.1
theorem cacheV_len {l : List TCached} (h : cacheV l = true) : l.length ≤ 16 := by
  simp only [cacheV, Bool.and_eq_true, decide_eq_true_eq] at h
  exact h.2
theorem copied_bag (l : List TEntry) (h : bagV l = true) : Ev (fun k => cache_copied k l) l :=
  copied_ev l (by have := bagV_len h; omega) (fun e he => by have := okE_len (bagV_mem h e he); omega)
theorem duplicate_ev (x : TCached) (h : bagV x.f1 = true) : Ev (fun k => cache_duplicate k x) x := by
  unfold cache_duplicate
  exact Ev.bind (copied_bag _ h) (Ev.now _)
def liveC (t d : Int) (x : TCached) : Bool := decide (x.f2 ≤ d ∧ d < x.f2 + t)
def expS (t : Int) (l : List TCached) (d : Int) : List TCached := if cacheV l && (okD t && okD d) then l.filter (liveC t d) else []
theorem okD_rng {n : Int} (h : okD n = true) : 0 ≤ n ∧ n ≤ 1048576 := of_decide_eq_true h
theorem Expire_ev (c : TCache) (l : List TCached) (d : Int) (hl : FinC l) : Ev (fun k => cache_Expire k c l d) (expS c.f3 l d) := by
  unfold cache_Expire expS
  simp only [inDays_eq, Option.bind_some]
  refine Ev.bind (cache_Valid_ev l hl) ?_
  cases hv : cacheV l with
  | false => exact Ev.ite_pos rfl (Ev.now _)
  | true =>
    refine Ev.ite_neg (by simp) ?_
    cases ht : okD c.f3 with
    | false => exact Ev.ite_pos rfl (Ev.now _)
    | true =>
      refine Ev.ite_neg (by simp) ?_
      cases hd : okD d with
      | false => exact Ev.ite_pos rfl (Ev.now _)
      | true =>
        refine Ev.ite_neg (by simp) ?_
        have hn := cacheV_len hv
        have ht' := okD_rng ht
        have key : ∀ i, i ≤ l.length → ∀ acc : List TCached, acc.length ≤ i → Ev (fun k => cache_Expire.p1 k l d (i : Int) c acc) (acc ++ (l.drop i).filter (liveC c.f3 d)) := by
          refine loop_down (P := fun i => ∀ acc : List TCached, acc.length ≤ i → Ev (fun k => cache_Expire.p1 k l d (i : Int) c acc) (acc ++ (l.drop i).filter (liveC c.f3 d))) l.length ?_ ?_
          · intro acc _
            refine Ev.succ ?_
            simp only [cache_Expire.p1, decide_eq_true_eq]
            rw [List.drop_length]
            exact Ev.ite_neg (by omega) (Ev.done (by simp))
          · intro i hi ih acc ha
            refine Ev.succ ?_
            simp only [cache_Expire.p1, decide_eq_true_eq]
            obtain ⟨hx1, hx2, hx3⟩ := cacheV_mem hv _ (getD_mem dCached hi)
            have hx3 := okD_rng hx3
            rw [dC hi, wrn hi (by omega), wr (n := (l.getD (i : Int).toNat dCached).f2 + c.f3) (by omega), List.filter_cons]
            refine Ev.ite_pos (by omega) (Ev.ite_pos (by omega) ?_)
            unfold liveC at *
            by_cases h1 : d ≥ (l.getD (i : Int).toNat dCached).f2
            · refine Ev.ite_pos h1 ?_
              by_cases h2 : d < (l.getD (i : Int).toNat dCached).f2 + c.f3
              · refine Ev.ite_pos h2 (Ev.bind (duplicate_ev _ hx2) (Ev.ite_pos (by simp only [maxLen, List.length_singleton]; omega) ?_))
                rw [if_pos (decide_eq_true ⟨h1, h2⟩)]
                exact (ih (acc ++ [l.getD (i : Int).toNat dCached]) (by simp; omega)).to (by simp only [List.append_assoc, List.singleton_append])
              · rw [if_neg (by simp only [decide_eq_true_eq]; omega)]
                exact Ev.ite_neg h2 (ih acc (by omega))
            · rw [if_neg (by simp only [decide_eq_true_eq]; omega)]
              exact Ev.ite_neg h1 (ih acc (by omega))
        exact key 0 (by omega) [] (by simp)
theorem usable_ev (c : TCache) (l : List TCached) (rows : List TEntry) (d : Int) (hl : FinC l) (hr : Fin rows) : Ev (fun k => cache_usable k c l rows d) (cacheV l && (bagV rows && (okD c.f3 && okD d))) := by
  unfold cache_usable
  simp only [inDays_eq, Option.bind_some]
  refine Ev.bind (cache_Valid_ev l hl) ?_
  cases hv : cacheV l with
  | false => exact Ev.ite_neg (by simp) (Ev.now _)
  | true =>
    refine Ev.ite_pos rfl (Ev.bind (bag_Valid_ev rows hr) ?_)
    cases hb : bagV rows with
    | false => exact Ev.ite_neg (by simp) (Ev.now _)
    | true =>
      refine Ev.ite_pos rfl ?_
      cases ht : okD c.f3 with
      | false => exact Ev.ite_neg (by simp) (Ev.now _)
      | true => exact Ev.ite_pos rfl (Ev.now _)
end Go.Proofs.YtjhnpaenhdbhpabV
set_option linter.unusedVariables false
set_option linter.unusedSimpArgs false
namespace Go.Proofs.YtjhnpaenhdbhpabV
open Go Go.RowKit
theorem ins_eq {α : Type} (out : List α) (z y : α) (i : Nat) (hi : i ≤ out.length) :
    (copyL (out ++ [z]) ((i + 1 : Nat) : Int) ((out ++ [z]).length : Int) (subL (out ++ [z]) (i : Int) ((out ++ [z]).length : Int))).set i y = out.take i ++ y :: out.drop i := by
  have hn : ((((out ++ [z]).length : Nat) : Int)).toNat = out.length + 1 := by simp
  unfold copyL subL
  rw [hn]
  simp only [Int.toNat_natCast]
  have e1 : (List.take (out.length + 1) (out ++ [z])) = out ++ [z] := List.take_of_length_le (by simp)
  have e2 : (out ++ [z]).drop i = out.drop i ++ [z] := List.drop_append_of_le_length hi
  have e3 : (out.drop i ++ [z]).take (out.length + 1 - (i + 1)) = out.drop i := by
    rw [List.take_append_of_le_length (by simp), List.take_of_length_le (by simp)]
  have e4 : (out ++ [z]).drop (i + 1 + min (out.drop i ++ [z]).length (out.length + 1 - (i + 1))) = [] := List.drop_eq_nil_of_le (by simp; omega)
  rw [e1, e2, e3, e4, List.append_nil]
  have e5 : (out ++ [z]).take (i + 1) = out.take i ++ [(out ++ [z]).getD i z] := by
    rw [List.take_add_one, List.take_append_of_le_length hi]
    congr 1
    rw [List.getD_eq_getElem?_getD, List.getElem?_eq_getElem (by simp; omega)]; rfl
  rw [e5, List.append_assoc, List.set_append_right _ _ (by simp; omega)]
  have e6 : i - (out.take i).length = 0 := by simp; omega
  rw [e6]; rfl
theorem ins_get {α : Type} (d : α) (out : List α) (y : α) (i : Nat) (hi : i ≤ out.length) : (out.take i ++ y :: out.drop i).getD i d = y := by
  rw [List.getD_eq_getElem?_getD, List.getElem?_append_right (by simp; omega)]
  have e6 : i - (out.take i).length = 0 := by simp; omega
  rw [e6]; rfl
def insC (w : TValue) (y : TCached) : List TCached → List TCached
  | [] => [y]
  | x :: l => if cmpV x.f0 w < 0 then x :: insC w y l else y :: x :: l
theorem sel_bag (rows : List TEntry) (c : Int) (w : TValue) (h : bagV rows = true) : (selS rows c w).length ≤ 4096 ∧ ∀ e ∈ selS rows c w, e.f0.length ≤ 16 :=
  ⟨Nat.le_trans (List.length_filter_le _ _) (bagV_len h), fun e he => okE_len (bagV_mem h e (List.mem_filter.1 he).1)⟩
theorem lookup_p3 (rows : List TEntry) (d : Int) (c : TCache) (out : List TCached) (w : TValue) (hb : bagV rows = true) (hw : okV w = true) (hl : out.length ≤ 16) : ∀ i, i ≤ out.length →
    Ev (fun k => cache_Lookup.p3 k rows d (i : Int) c out w) (out.take i ++ insC w ⟨w, selS rows c.f2 w, d⟩ (out.drop i), selS rows c.f2 w, 0) := by
  have hs := sel_bag rows c.f2 w hb
  have hsel : Ev (fun k => cache_Select k rows c.f2 w) (selS rows c.f2 w) := by
    have := sel_ev rows c.f2 w (by have := bagV_len hb; omega) (fun e he => by have := okE_len (bagV_mem hb e he); omega)
    rwa [show clV w = w from if_pos hw] at this
  have hcp : Ev (fun k => cache_copied k (selS rows c.f2 w)) (selS rows c.f2 w) := copied_ev _ (by omega) (fun e he => by have := hs.2 e he; omega)
  refine loop_down (P := fun i => Ev (fun k => cache_Lookup.p3 k rows d (i : Int) c out w) (out.take i ++ insC w ⟨w, selS rows c.f2 w, d⟩ (out.drop i), selS rows c.f2 w, 0)) out.length ?_ ?_
  · refine Ev.succ ?_
    simp only [cache_Lookup.p3, decide_eq_true_eq]
    have hw1 : IntKind.i64.wrap ((out.length : Int) + 1) = ((out.length + 1 : Nat) : Int) := by rw [wr (by omega)]; omega
    simp only [hw1]
    refine Ev.ite_neg (by omega) (Ev.ite_pos (by simp only [maxLen, List.length_singleton]; omega) (Ev.ite_pos (by simp only [List.length_append, List.length_singleton]; omega) (Ev.ite_pos (by simp only [List.length_append, List.length_singleton]; omega) (Ev.bind hsel (Ev.ite_pos (by simp only [List.length_append, List.length_singleton]; omega) ?_)))))
    have e := ins_eq out (TCached.mk (TValue.mk 0 0 (⟨#[]⟩ : ByteArray)) ([] : List TEntry) 0) ⟨w, selS rows c.f2 w, d⟩ out.length (Nat.le_refl _)
    simp only [Int.toNat_natCast]
    rw [e, ins_get _ _ _ _ (Nat.le_refl _)]
    refine Ev.bind hcp (Ev.done ?_)
    rw [List.drop_length]; rfl
  · intro i hi ih
    refine Ev.succ ?_
    simp only [cache_Lookup.p3, decide_eq_true_eq, value_Compare_eq, Option.bind_some]
    rw [dC hi]
    have hw1 : IntKind.i64.wrap ((i : Int) + 1) = ((i + 1 : Nat) : Int) := wrn hi (by omega)
    simp only [hw1]
    refine Ev.ite_pos (by omega) (Ev.ite_pos (by omega) ?_)
    unfold insC
    by_cases hc : cmpV (out.getD (i : Int).toNat dCached).f0 w < 0
    · rw [if_pos hc]
      refine Ev.ite_pos hc (ih.to ?_)
      have e5 : out.take (i + 1) = out.take i ++ [out.getD (i : Int).toNat dCached] := by
        rw [List.take_add_one]
        congr 1
        rw [Int.toNat_natCast, List.getD_eq_getElem?_getD, List.getElem?_eq_getElem hi]; rfl
      rw [e5, List.append_assoc]; rfl
    · rw [if_neg hc]
      refine Ev.ite_neg hc (Ev.ite_pos (by simp only [maxLen, List.length_singleton]; omega) (Ev.ite_pos (by simp only [List.length_append, List.length_singleton]; omega) (Ev.ite_pos (by simp only [List.length_append, List.length_singleton]; omega) (Ev.bind hsel (Ev.ite_pos (by simp only [List.length_append, List.length_singleton]; omega) ?_)))))
      have e := ins_eq out (TCached.mk (TValue.mk 0 0 (⟨#[]⟩ : ByteArray)) ([] : List TEntry) 0) ⟨w, selS rows c.f2 w, d⟩ i (by omega)
      simp only [Int.toNat_natCast]
      rw [e, ins_get _ _ _ _ (by omega)]
      refine Ev.bind hcp (Ev.done ?_)
      have h2 := dC hi
      rw [Int.toNat_natCast] at h2
      rw [← h2]
def oldestF (l : List TCached) : Nat → Nat → List TCached → Nat
  | b, _, [] => b
  | b, i, x :: r => oldestF l (if x.f2 < (l.getD b dCached).f2 then i else b) (i + 1) r
theorem oldestF_lt (l : List TCached) : ∀ (r : List TCached) (b i : Nat), b < l.length → i + r.length ≤ l.length → oldestF l b i r < l.length
  | [], b, i, hb, _ => hb
  | x :: r, b, i, hb, hi => by
    unfold oldestF
    simp only [List.length_cons] at hi
    refine oldestF_lt l r _ (i + 1) ?_ (by omega)
    split
    · omega
    · exact hb
def dropOld (l : List TCached) : List TCached := l.take (oldestF l 0 1 (l.drop 1)) ++ l.drop (oldestF l 0 1 (l.drop 1) + 1)
theorem dropOld_len {l : List TCached} (h : 0 < l.length) : (dropOld l).length = l.length - 1 := by
  have := oldestF_lt l (l.drop 1) 0 1 h (by simp; omega)
  unfold dropOld
  simp only [List.length_append, List.length_take, List.length_drop]
  omega
theorem lookup_p2 (rows : List TEntry) (d : Int) (c : TCache) (out : List TCached) (w : TValue) (hb : bagV rows = true) (hw : okV w = true) (hl : out.length ≤ 16) : ∀ i, i ≤ out.length → ∀ b, b < out.length →
    Ev (fun k => cache_Lookup.p2 k rows d (b : Int) (i : Int) c out w) (insC w ⟨w, selS rows c.f2 w, d⟩ (out.take (oldestF out b i (out.drop i)) ++ out.drop (oldestF out b i (out.drop i) + 1)), selS rows c.f2 w, 0) := by
  refine loop_down (P := fun i => ∀ b, b < out.length → Ev (fun k => cache_Lookup.p2 k rows d (b : Int) (i : Int) c out w) (insC w ⟨w, selS rows c.f2 w, d⟩ (out.take (oldestF out b i (out.drop i)) ++ out.drop (oldestF out b i (out.drop i) + 1)), selS rows c.f2 w, 0)) out.length ?_ ?_
  · intro b hbl
    refine Ev.succ ?_
    simp only [cache_Lookup.p2, decide_eq_true_eq]
    rw [List.drop_length]
    have hw1 : IntKind.i64.wrap ((b : Int) + 1) = ((b + 1 : Nat) : Int) := by rw [wr (by omega)]; omega
    have e1 : subL out (0 : Int) (b : Int) = out.take b := by simp [subL]
    have e2 : subL out ((b + 1 : Nat) : Int) ((out.length : Nat) : Int) = out.drop (b + 1) := by simp [subL]
    simp only [hw1, e1, e2]
    refine Ev.ite_neg (by omega) (Ev.ite_pos (by omega) (Ev.ite_pos (by omega) (Ev.ite_pos (by simp only [maxLen]; omega) ?_)))
    have := lookup_p3 rows d c (out.take b ++ out.drop (b + 1)) w hb hw (by simp; omega) 0 (by omega)
    simpa [oldestF] using this
  · intro i hi ih b hbl
    refine Ev.succ ?_
    simp only [cache_Lookup.p2, decide_eq_true_eq]
    refine Ev.ite_pos (by omega) (Ev.ite_pos (by omega) (Ev.ite_pos (by omega) ?_))
    have h2 := dC hi
    rw [wrn hi (by omega), h2]
    unfold oldestF
    by_cases hc : (out.getD (i : Int).toNat dCached).f2 < (out.getD (b : Int).toNat dCached).f2
    · refine Ev.ite_pos hc ?_
      have hc' : (out.getD (i : Int).toNat dCached).f2 < (out.getD b dCached).f2 := hc
      rw [if_pos hc']
      exact ih i hi
    · refine Ev.ite_neg hc ?_
      have hc' : ¬ (out.getD (i : Int).toNat dCached).f2 < (out.getD b dCached).f2 := hc
      rw [if_neg hc']
      exact ih b hbl
def lookF (rows : List TEntry) (d : Int) (c : TCache) (out : List TCached) (w : TValue) : List TCached → List TCached × List TEntry × Int
  | [] => (insC w ⟨w, selS rows c.f2 w, d⟩ (if 16 ≤ out.length then dropOld out else out), selS rows c.f2 w, 0)
  | x :: r => if x.f0 = w then (out, x.f1, 0) else lookF rows d c out w r
def lookS (c : TCache) (l : List TCached) (rows : List TEntry) (v : TValue) (d : Int) : List TCached × List TEntry × Int :=
  if cacheV l && (bagV rows && (okD c.f3 && okD d)) then lookF rows d c (expS c.f3 l d) (clV v) (expS c.f3 l d) else ([], [], 1)
theorem lookup_p1 (rows : List TEntry) (d : Int) (c : TCache) (out : List TCached) (w : TValue) (hb : bagV rows = true) (hw : okV w = true) (hl : out.length ≤ 16) (ho : ∀ x ∈ out, bagV x.f1 = true) : ∀ i, i ≤ out.length →
    Ev (fun k => cache_Lookup.p1 k rows d (i : Int) c out w) (lookF rows d c out w (out.drop i)) := by
  refine loop_down (P := fun i => Ev (fun k => cache_Lookup.p1 k rows d (i : Int) c out w) (lookF rows d c out w (out.drop i))) out.length ?_ ?_
  · refine Ev.succ ?_
    simp only [cache_Lookup.p1, decide_eq_true_eq]
    rw [List.drop_length]
    refine Ev.ite_neg (by omega) ?_
    unfold lookF
    by_cases h : 16 ≤ out.length
    · rw [if_pos h]
      exact Ev.ite_pos (by omega) (lookup_p2 rows d c out w hb hw hl 1 (by omega) 0 (by omega))
    · rw [if_neg h]
      refine Ev.ite_neg (by omega) ?_
      have := lookup_p3 rows d c out w hb hw hl 0 (by omega)
      simpa using this
  · intro i hi ih
    refine Ev.succ ?_
    simp only [cache_Lookup.p1, decide_eq_true_eq, eqV_iff]
    refine Ev.ite_pos (by omega) (Ev.ite_pos (by omega) ?_)
    have h2 := dC hi
    rw [wrn hi (by omega), h2]
    unfold lookF
    by_cases hc : (out.getD (i : Int).toNat dCached).f0 = w
    · rw [if_pos hc]; exact Ev.ite_pos hc (Ev.bind (copied_bag _ (ho _ (getD_mem _ hi))) (Ev.now _))
    · rw [if_neg hc]; exact Ev.ite_neg hc ih
theorem expS_mem {t d : Int} {l : List TCached} : ∀ x ∈ expS t l d, okV x.f0 = true ∧ bagV x.f1 = true ∧ okD x.f2 = true := by
  intro x hx
  unfold expS at hx
  split at hx
  · rename_i h
    simp only [Bool.and_eq_true] at h
    exact cacheV_mem h.1 x (List.mem_filter.1 hx).1
  · cases hx
theorem expS_len {t d : Int} {l : List TCached} : (expS t l d).length ≤ 16 := by
  unfold expS
  split
  · rename_i h
    simp only [Bool.and_eq_true] at h
    exact Nat.le_trans (List.length_filter_le _ _) (cacheV_len h.1)
  · simp
theorem Lookup_ev (c : TCache) (l : List TCached) (rows : List TEntry) (v : TValue) (d : Int) (hl : FinC l) (hr : Fin rows) : Ev (fun k => cache_Lookup k c l rows v d) (lookS c l rows v d) := by
  unfold cache_Lookup lookS
  refine Ev.bind (usable_ev c l rows d hl hr) ?_
  cases hu : cacheV l && (bagV rows && (okD c.f3 && okD d)) with
  | false => exact Ev.ite_pos rfl (Ev.now _)
  | true =>
    refine Ev.ite_neg (by simp) (Ev.bind (Expire_ev c l d hl) ?_)
    simp only [value_Clean_eq, Option.bind_some, if_true]
    simp only [Bool.and_eq_true] at hu
    exact lookup_p1 rows d c _ (clV v) hu.2.1 (okV_cl v) expS_len (fun x hx => (expS_mem x hx).2.1) 0 (by omega)
end Go.Proofs.YtjhnpaenhdbhpabV
set_option linter.unusedVariables false
set_option linter.unusedSimpArgs false
namespace Go.Proofs.YtjhnpaenhdbhpabV
open Go Go.RowKit
theorem cmpC_trans {a b c : TValue} (ha : okV a = true) (hb : okV b = true) (hc : okV c = true) (h1 : cmpC a b < 0) (h2 : cmpC b c < 0) : cmpC a c < 0 := by
  rw [cmpC_neg ha hb] at h1
  rw [cmpC_neg hb hc] at h2
  rw [cmpC_neg ha hc]
  rcases h1 with h1 | ⟨e1, h1⟩ <;> rcases h2 with h2 | ⟨e2, h2⟩
  · exact .inl (by omega)
  · exact .inl (by omega)
  · exact .inl (by omega)
  · refine .inr ⟨by omega, ?_⟩
    rcases ok_cases ha with ⟨a0, a1, a2⟩ | ⟨a0, a2⟩ | ⟨a0, a1⟩ <;> rcases ok_cases hb with ⟨b0, b1, b2⟩ | ⟨b0, b2⟩ | ⟨b0, b1⟩ <;> rcases ok_cases hc with ⟨c0, c1, c2⟩ | ⟨c0, c2⟩ | ⟨c0, c1⟩ <;> (try omega)
    · rw [a2, b2] at h1
      rcases h1 with h1 | h1
      · omega
      · exact absurd h1 (List.lt_irrefl _)
    · rw [a2, b2] at h1
      rw [b2, c2] at h2
      rcases h1 with h1 | h1
      · rcases h2 with h2 | h2
        · exact .inl (by omega)
        · exact absurd h2 (List.lt_irrefl _)
      · exact absurd h1 (List.lt_irrefl _)
    · rcases h1 with h1 | h1
      · omega
      · rcases h2 with h2 | h2
        · omega
        · exact .inr (List.lt_trans h1 h2)
theorem cmpV_trans {a b c : TValue} (h1 : cmpV a b < 0) (h2 : cmpV b c < 0) : cmpV a c < 0 := cmpC_trans (okV_cl a) (okV_cl b) (okV_cl c) h1 h2
theorem cmpV_self (a : TValue) : cmpV a a = 0 := (cmpC_zero (okV_cl a) (okV_cl a)).2 rfl
def Ord (l : List TCached) : Prop := l.Pairwise fun x y => cmpV x.f0 y.f0 < 0
theorem ctF_ord : ∀ (l : List TCached) (p : Option TCached), ctF p l = true → Ord l ∧ ∀ q, p = some q → ∀ x ∈ l, cmpV q.f0 x.f0 < 0
  | [], _, _ => ⟨List.Pairwise.nil, fun _ _ x hx => by cases hx⟩
  | y :: l, p, h => by
    have h1 : ctF (some y) l = true ∧ ∀ q, p = some q → cmpV q.f0 y.f0 < 0 := by
      cases p with
      | none => simp only [ctF, Bool.and_eq_true] at h; exact ⟨h.2.2.2, fun q e => by cases e⟩
      | some p => simp only [ctF, Bool.and_eq_true, decide_eq_true_eq] at h; exact ⟨h.2.2.2.2, fun q e => by cases e; exact h.2.1⟩
    obtain ⟨i1, i2⟩ := ctF_ord l (some y) h1.1
    refine ⟨List.Pairwise.cons (fun x hx => i2 y rfl x hx) i1, fun q hq x hx => ?_⟩
    rcases List.mem_cons.1 hx with rfl | hx
    · exact h1.2 q hq
    · exact cmpV_trans (h1.2 q hq) (i2 y rfl x hx)
theorem cacheV_ord {l : List TCached} (h : cacheV l = true) : Ord l := by
  simp only [cacheV, Bool.and_eq_true] at h
  exact (ctF_ord l none h.1).1
theorem insC_cons (w : TValue) (y x : TCached) (l : List TCached) : insC w y (x :: l) = if cmpV x.f0 w < 0 then x :: insC w y l else y :: x :: l := rfl
theorem insC_all_lt (w : TValue) (y : TCached) : ∀ l : List TCached, (∀ x ∈ l, cmpV x.f0 w < 0) → insC w y l = l ++ [y]
  | [], _ => rfl
  | x :: l, h => by unfold insC; rw [if_pos (h x (List.mem_cons_self ..)), insC_all_lt w y l (fun z hz => h z (List.mem_cons_of_mem _ hz))]; rfl
end Go.Proofs.YtjhnpaenhdbhpabV
set_option linter.unusedVariables false
set_option linter.unusedSimpArgs false
namespace Go.Proofs.YtjhnpaenhdbhpabV
open Go Go.RowKit
def intV (n : Int) : TValue := ⟨1, n, ⟨#[]⟩⟩
theorem okV_int {n : Int} (h : -4294967296 ≤ n ∧ n ≤ 4294967296) : okV (intV n) = true := by
  unfold okV intV
  rw [if_neg (show ¬ ((1 : Int) = 0) by decide), if_pos rfl]
  simp [h]
theorem ref01_Int_eq (k : Nat) {n : Int} (h : -4294967296 ≤ n ∧ n ≤ 4294967296) : erasureref01_Int k n = some (intV n) := by
  unfold erasureref01_Int
  have := ref01_Clean_eq k (intV n)
  rw [clV_ok (okV_int h)] at this
  have e : erasureref01_Clean k (TValue.mk 1 n ⟨#[]⟩) = some (intV n) := this
  rw [e]; rfl
theorem cmpV_int {a b : Int} (ha : -4294967296 ≤ a ∧ a ≤ 4294967296) (hb : -4294967296 ≤ b ∧ b ≤ 4294967296) : cmpV (intV a) (intV b) = cmpI a b := by
  unfold cmpV
  rw [clV_ok (okV_int ha), clV_ok (okV_int hb)]
  rfl
def entS : Nat → List Int → List TCached
  | _, [] => []
  | i, d :: l => ⟨intV i, [], d⟩ :: entS (i + 1) l
theorem entS_len : ∀ (l : List Int) (i : Nat), (entS i l).length = l.length
  | [], _ => rfl
  | _ :: l, i => by unfold entS; rw [List.length_cons, List.length_cons, entS_len l (i + 1)]
theorem entS_mem : ∀ (l : List Int) (i : Nat), ∀ x ∈ entS i l, ∃ j : Nat, i ≤ j ∧ j < i + l.length ∧ x.f0 = intV j ∧ x.f1 = [] ∧ x.f2 ∈ l
  | [], _, x, hx => by cases hx
  | d :: l, i, x, hx => by
    unfold entS at hx
    rcases List.mem_cons.1 hx with rfl | hx
    · exact ⟨i, by omega, by simp, rfl, rfl, by simp⟩
    · obtain ⟨j, h1, h2, h3, h4, h5⟩ := entS_mem l (i + 1) x hx
      exact ⟨j, by omega, by simp only [List.length_cons]; omega, h3, h4, List.mem_cons_of_mem _ h5⟩
theorem entS_app : ∀ (l : List Int) (i : Nat) (d : Int), entS i (l ++ [d]) = entS i l ++ [⟨intV ((i + l.length : Nat) : Int), [], d⟩]
  | [], i, d => by simp [entS]
  | a :: l, i, d => by
    show (⟨intV i, [], a⟩ : TCached) :: entS (i + 1) (l ++ [d]) = _
    rw [entS_app l (i + 1) d]
    have e : i + 1 + l.length = i + (a :: l).length := by simp only [List.length_cons]; omega
    rw [e]; rfl
theorem bagV_nil : bagV [] = true := rfl
theorem entS_ct : ∀ (l : List Int) (i : Nat) (p : Option TCached), i + l.length ≤ 100 → (∀ d ∈ l, 0 ≤ d ∧ d ≤ 40) → (∀ q, p = some q → ∃ j : Nat, j < i ∧ q.f0 = intV j) → ctF p (entS i l) = true
  | [], i, p, _, _, _ => by cases p <;> rfl
  | d :: l, i, p, hi, hd, hp => by
    simp only [List.length_cons] at hi
    have ih := entS_ct l (i + 1) (some ⟨intV i, [], d⟩) (by omega) (fun x hx => hd x (List.mem_cons_of_mem _ hx)) (fun q hq => ⟨i, by omega, by cases hq; rfl⟩)
    have h1 : okV (intV i) = true := okV_int (by omega)
    have h2 : okD d = true := decide_eq_true (by have := hd d (by simp); omega)
    cases p with
    | none => simp only [entS, ctF, h1, h2, bagV_nil, ih, Bool.and_self]
    | some q =>
      obtain ⟨j, hj, hq⟩ := hp q rfl
      have h3 : cmpV q.f0 (intV i) < 0 := by rw [hq, cmpV_int (by omega) (by omega)]; exact cmpI_neg.2 (by omega)
      simp only [entS, ctF, h1, h2, bagV_nil, ih, decide_eq_true h3, Bool.and_self]
theorem entS_cache (l : List Int) (hl : l.length ≤ 16) (hd : ∀ d ∈ l, 0 ≤ d ∧ d ≤ 40) : cacheV (entS 0 l) = true := by
  unfold cacheV
  rw [entS_ct l 0 none (by omega) hd (fun q hq => by cases hq), decide_eq_true (by rw [entS_len]; exact hl)]; rfl
theorem entS_fin (l : List Int) (hl : l.length ≤ 16) : FinC (entS 0 l) := by
  refine ⟨by rw [entS_len]; omega, fun x hx => ?_⟩
  obtain ⟨j, _, _, _, h, _⟩ := entS_mem l 0 x hx
  rw [h]; exact ⟨by simp, fun e he => by cases he⟩
theorem look_miss (rows : List TEntry) (d : Int) (c : TCache) (out : List TCached) (w : TValue) : ∀ l : List TCached, (∀ x ∈ l, x.f0 ≠ w) → lookF rows d c out w l = lookF rows d c out w []
  | [], _ => rfl
  | x :: l, h => by
    rw [show lookF rows d c out w (x :: l) = if x.f0 = w then (out, x.f1, 0) else lookF rows d c out w l from rfl, if_neg (h x (List.mem_cons_self ..))]
    exact look_miss rows d c out w l (fun z hz => h z (List.mem_cons_of_mem _ hz))
theorem look_new (l : List Int) (hl : l.length ≤ 16) (hd : ∀ d ∈ l, 0 ≤ d ∧ d ≤ 40) (n d : Int) (hn : (l.length : Int) ≤ n ∧ n ≤ 1000) (h0 : 0 ≤ d ∧ d ≤ 41) (hle : ∀ x ∈ l, x ≤ d) :
    lookS ⟨⟨#[]⟩, ⟨#[]⟩, 0, 1000⟩ (entS 0 l) [] (intV n) d = (insC (intV n) ⟨intV n, [], d⟩ (if 16 ≤ l.length then dropOld (entS 0 l) else entS 0 l), [], 0) := by
  have hc := entS_cache l hl hd
  have hdo : okD d = true := decide_eq_true (by omega)
  have hto : okD (1000 : Int) = true := by decide
  have hexp : expS 1000 (entS 0 l) d = entS 0 l := by
    unfold expS
    rw [hc, hdo, hto]
    simp only [Bool.and_self, if_true]
    refine List.filter_eq_self.2 fun x hx => ?_
    obtain ⟨j, _, _, _, _, h⟩ := entS_mem l 0 x hx
    have h1 := hd _ h
    have h2 := hle _ h
    exact decide_eq_true ⟨h2, by omega⟩
  unfold lookS
  rw [show ((⟨⟨#[]⟩, ⟨#[]⟩, 0, 1000⟩ : TCache).f3) = 1000 from rfl, hc, hdo, hto, bagV_nil, hexp, clV_ok (okV_int (by omega))]
  simp only [Bool.and_self, if_true]
  rw [look_miss _ _ _ _ _ _ (fun x hx e => by
    obtain ⟨j, _, hj, h3, _⟩ := entS_mem l 0 x hx
    rw [h3] at e
    have : (j : Int) = n := congrArg TValue.f1 e
    omega)]
  unfold lookF
  rw [entS_len]
  rfl
end Go.Proofs.YtjhnpaenhdbhpabV
set_option linter.unusedVariables false
set_option linter.unusedSimpArgs false
set_option maxRecDepth 100000
namespace Go.Proofs.YtjhnpaenhdbhpabV
open Go Go.RowKit
noncomputable def erasureref30_without.p1  : Nat → (List TCached) → Int → TValue → (List TCached) → Option (List TCached)
  | 0, _, _, _, _ => none
  | k + 1, s0, i6, v3b, out5 => if (decide (i6 < ((s0).length : Int))) = true then (if 0 ≤ i6 ∧ i6 < ((s0).length : Int) then (if (!(((s0.getD i6.toNat dCached).f0.f0 == v3b.f0) && (((s0.getD i6.toNat dCached).f0.f1 == v3b.f1) && ((((s0.getD i6.toNat dCached).f0.f2).data.toList == v3b.f2.data.toList) && true)))) = true then (if (out5).length + ([(s0.getD i6.toNat dCached)]).length ≤ maxLen ∧ ((out5).length + ([(s0.getD i6.toNat dCached)]).length) * 64 ≤ 140737488355328 then (erasureref30_without.p1 k s0 (IntKind.i64.wrap (i6 + 1)) v3b (out5 ++ ([(s0.getD i6.toNat dCached)]))) else none) else (erasureref30_without.p1 k s0 (IntKind.i64.wrap (i6 + 1)) v3b out5)) else none) else (some out5)
noncomputable def erasureref30_without  (k : Nat) (s0 : (List TCached)) (v1 : TValue) : Option (List TCached) := erasureref30_without.p1 k s0 0 v1 ([] : List TCached)
noncomputable def erasureref30_without.t : List Item := [.code (bodyOf Try.f46)]
noncomputable def erasureref30_without.s (s0 : (List TCached)) (v1 : TValue) : St := ⟨frOf Try.f46.ntmps 0 [(0, .p (eL 5 cCached dCached s0)), (1, .agg ((cValue v1).map .p))], []⟩
noncomputable def erasureref30_without.p1.t : List Item := nav 9 [] erasureref30_without.t
noncomputable def erasureref30_without.p1.s (s0 : (List TCached)) (i6 : Int) (v3b : TValue) (out5 : (List TCached)) : St := ⟨frOf Try.f46.ntmps 0 [(0, .p (eL 5 cCached dCached s0)), (3, .ptr 0 0 0), (5, .sref 1 46 5 (out5).length), (6, .p (.int .i64 i6))], [.box ((cValue v3b).map .p), (oL true 46 5 cCached dCached out5)]⟩
theorem erasureref30_without.p1.run   : ∀ (k : Nat) (s0 : (List TCached)) (i6 : Int) (v3b : TValue) (out5 : (List TCached)) (r : (List TCached)), erasureref30_without.p1 k s0 i6 v3b out5 = some r → RunC Try.prog Try.f46 erasureref30_without.p1.t (erasureref30_without.p1.s s0 i6 v3b out5) (.sref 0 46 5 (r).length) [(oL true 46 5 cCached dCached (r))] := by
  intro k
  induction k with
  | zero => intro s0 i6 v3b out5 r h; simp [erasureref30_without.p1] at h
  | succ k ih =>
    intro s0 i6 v3b out5 r h
    rw [erasureref30_without.p1] at h
    rcases ite_or h with ⟨g_1, h⟩ | ⟨g_1, h⟩
    · obtain ⟨g_2, h⟩ := ite_some h
      rcases ite_or h with ⟨g_3, h⟩ | ⟨g_3, h⟩
      · obtain ⟨g_4, h⟩ := ite_some h
        exact RunC.go [.n 2, .r [(3, .dec true)], .n 5, .r [(6, .dec true)], .n 1, .r [(5, .obj (oL true 46 5 cCached dCached [(s0.getD i6.toNat dCached)])), (6, .obj (oL true 46 5 cCached dCached (out5 ++ ([(s0.getD i6.toNat dCached)]))))], .n 3, .k [0, 3, 5, 6]] (by kernel_rfl) (Obs.of (by kernel_rfl) (And.intro g_1 (And.intro g_2 (And.intro g_3 (And.intro g_2 (And.intro (le_one 46 5 cCached dCached (s0.getD i6.toNat dCached)) (And.intro g_4 (le_app 46 5 cCached dCached out5 ([(s0.getD i6.toNat dCached)]))))))))) (ih _ _ _ _ r h)
      · exact RunC.go [.n 2, .r [(3, .dec true)], .n 5, .r [(6, .dec false)], .n 5, .k [0, 3, 5, 6]] (by kernel_rfl) (Obs.of (by kernel_rfl) (And.intro g_1 (And.intro g_2 (nt g_3)))) (ih _ _ _ _ r h)
    · obtain rfl := Option.some.inj h
      exact RunC.out [.n 2, .r [(3, .dec false)], .n 4] (by kernel_rfl) (Obs.of (by kernel_rfl) (nt g_1))
theorem erasureref30_without.run   {k : Nat} {s0 : (List TCached)} {v1 : TValue} {r : (List TCached)} (h : erasureref30_without k s0 v1 = some r) : RunC Try.prog Try.f46 erasureref30_without.t (erasureref30_without.s s0 v1) (.sref 0 46 5 (r).length) [(oL true 46 5 cCached dCached (r))] := by
  unfold erasureref30_without at h
  exact RunC.go [.n 1, .r [(1, .obj (oL true 46 5 cCached dCached ([] : List TCached)))], .n 1, .r [(0, .obj (oL true 46 5 cCached dCached ([] : List TCached)))], .n 5, .k [0, 3, 5, 6]] (by kernel_rfl) (Obs.of (by kernel_rfl) (And.intro (le_nil 46 5 cCached dCached) (le_nil 46 5 cCached dCached))) (erasureref30_without.p1.run k _ _ _ _ r h)
theorem erasureref30_without.p1.mono   : ∀ (k k' : Nat) (s0 : (List TCached)) (i6 : Int) (v3b : TValue) (out5 : (List TCached)) (r : (List TCached)), k ≤ k' → erasureref30_without.p1 k s0 i6 v3b out5 = some r → erasureref30_without.p1 k' s0 i6 v3b out5 = some r := by
  intro k
  induction k with
  | zero => intro k' s0 i6 v3b out5 r hk h; simp [erasureref30_without.p1] at h
  | succ k ih =>
    intro k' s0 i6 v3b out5 r hk h
    obtain ⟨k', rfl⟩ : ∃ m, k' = m + 1 := ⟨k' - 1, by omega⟩
    replace hk := Nat.le_of_succ_le_succ hk
    rw [erasureref30_without.p1] at h ⊢
    rcases ite_or h with ⟨g_1, h⟩ | ⟨g_1, h⟩
    · refine itp g_1 ?_
      obtain ⟨g_2, h⟩ := ite_some h
      refine itp g_2 ?_
      rcases ite_or h with ⟨g_3, h⟩ | ⟨g_3, h⟩
      · refine itp g_3 ?_
        obtain ⟨g_4, h⟩ := ite_some h
        refine itp g_4 ?_
        exact ih _ _ _ _ _ r hk h
      · refine itn g_3 ?_
        exact ih _ _ _ _ _ r hk h
    · refine itn g_1 ?_
      exact h
theorem erasureref30_without.mono   : ∀ (k k' : Nat) (s0 : (List TCached)) (v1 : TValue) (r : (List TCached)), k ≤ k' → erasureref30_without k s0 v1 = some r → erasureref30_without k' s0 v1 = some r := by
  intro k k' s0 v1 r hk h
  unfold erasureref30_without at h ⊢
  exact erasureref30_without.p1.mono _ _ _ _ _ _ r hk h
theorem erasureref30_without.spec {k : Nat} {s0 : (List TCached)} {v1 : TValue} {r : (List TCached)} (h : erasureref30_without k s0 v1 = some r) : Spec Try.prog 46 [.p (eL 5 cCached dCached s0), .agg ((cValue v1).map .p)] (.sref 0 46 5 (r).length) [(oL true 46 5 cCached dCached (r))] :=
  spec_of mix Try.func46 (body := bodyOf Try.f46) (by kernel_rfl) (by kernel_rfl) (erasureref30_without.run h)
end Go.Proofs.YtjhnpaenhdbhpabV
set_option linter.unusedVariables false
set_option linter.unusedSimpArgs false
set_option maxRecDepth 100000
namespace Go.Proofs.YtjhnpaenhdbhpabV
open Go Go.RowKit
noncomputable def erasureref30_Lookup.p3  : Nat → (List TEntry) → Int → TCache → TValue → (List TCached) → Option ((List TCached) × (List TEntry) × Int)
  | 0, _, _, _, _, _ => none
  | k + 1, A2, v18, a5b, v8b, v17 => if (decide (v18 > 0)) = true then (if 0 ≤ v18 ∧ v18 < ((v17).length : Int) then (if 0 ≤ (IntKind.i64.wrap (v18 - 1)) ∧ (IntKind.i64.wrap (v18 - 1)) < ((v17).length : Int) then ((erasureref01_Compare k ((v17.getD v18.toNat dCached).f0) ((v17.getD (IntKind.i64.wrap (v18 - 1)).toNat dCached).f0)).bind fun y_32 => (if (decide (y_32 < 0)) = true then (erasureref30_Lookup.p3 k A2 (IntKind.i64.wrap (v18 - 1)) a5b v8b ((v17.set (IntKind.i64.wrap (v18 - 1)).toNat (v17.getD v18.toNat dCached)).set v18.toNat (v17.getD (IntKind.i64.wrap (v18 - 1)).toNat dCached))) else ((erasureref30_Select k A2 a5b.f2 v8b).bind fun y_35 => (some (v17, y_35, 0))))) else none) else none) else ((erasureref30_Select k A2 a5b.f2 v8b).bind fun y_37 => (some (v17, y_37, 0)))
noncomputable def erasureref30_Lookup.p2  : Nat → (List TEntry) → Int → Int → Int → TCache → TValue → (List TCached) → Option ((List TCached) × (List TEntry) × Int)
  | 0, _, _, _, _, _, _, _ => none
  | k + 1, A2, r4, v15, v16, a5b, v8b, v13 => if (decide (v16 < ((v13).length : Int))) = true then (if 0 ≤ v16 ∧ v16 < ((v13).length : Int) then (if 0 ≤ v15 ∧ v15 < ((v13).length : Int) then (if (decide ((v13.getD v16.toNat dCached).f2 < (v13.getD v15.toNat dCached).f2)) = true then (erasureref30_Lookup.p2 k A2 r4 v16 (IntKind.i64.wrap (v16 + 1)) a5b v8b v13) else (erasureref30_Lookup.p2 k A2 r4 v15 (IntKind.i64.wrap (v16 + 1)) a5b v8b v13)) else none) else none) else (if 0 ≤ v15 ∧ v15 < ((v13).length : Int) then ((erasureref30_without k v13 ((v13.getD v15.toNat dCached).f0)).bind fun y_23 => (if (([] : List TCached)).length + (y_23).length ≤ maxLen ∧ ((([] : List TCached)).length + (y_23).length) * 64 ≤ 140737488355328 then ((erasureref30_Select k A2 a5b.f2 v8b).bind fun y_26 => (if ((([] : List TCached) ++ y_23)).length + ([(TCached.mk v8b y_26 r4)]).length ≤ maxLen ∧ (((([] : List TCached) ++ y_23)).length + ([(TCached.mk v8b y_26 r4)]).length) * 64 ≤ 140737488355328 then (erasureref30_Lookup.p3 k A2 (IntKind.i64.wrap (((((([] : List TCached) ++ y_23) ++ ([(TCached.mk v8b y_26 r4)]))).length : Int) - 1)) a5b v8b ((([] : List TCached) ++ y_23) ++ ([(TCached.mk v8b y_26 r4)]))) else none)) else none)) else none)
noncomputable def erasureref30_Lookup.p1  : Nat → (List TEntry) → Int → Int → TCache → TValue → (List TCached) → Option ((List TCached) × (List TEntry) × Int)
  | 0, _, _, _, _, _, _ => none
  | k + 1, A2, r4, v14, a5b, v8b, v13 => if (decide (v14 < ((v13).length : Int))) = true then (if 0 ≤ v14 ∧ v14 < ((v13).length : Int) then (if (((v13.getD v14.toNat dCached).f0.f0 == v8b.f0) && (((v13.getD v14.toNat dCached).f0.f1 == v8b.f1) && ((((v13.getD v14.toNat dCached).f0.f2).data.toList == v8b.f2.data.toList) && true))) = true then (some (v13, (v13.getD v14.toNat dCached).f1, 0)) else (erasureref30_Lookup.p1 k A2 r4 (IntKind.i64.wrap (v14 + 1)) a5b v8b v13)) else none) else (if (decide (((v13).length : Int) ≥ 16)) = true then (erasureref30_Lookup.p2 k A2 r4 0 1 a5b v8b v13) else (if (([] : List TCached)).length + (v13).length ≤ maxLen ∧ ((([] : List TCached)).length + (v13).length) * 64 ≤ 140737488355328 then ((erasureref30_Select k A2 a5b.f2 v8b).bind fun y_40 => (if ((([] : List TCached) ++ v13)).length + ([(TCached.mk v8b y_40 r4)]).length ≤ maxLen ∧ (((([] : List TCached) ++ v13)).length + ([(TCached.mk v8b y_40 r4)]).length) * 64 ≤ 140737488355328 then (erasureref30_Lookup.p3 k A2 (IntKind.i64.wrap (((((([] : List TCached) ++ v13) ++ ([(TCached.mk v8b y_40 r4)]))).length : Int) - 1)) a5b v8b ((([] : List TCached) ++ v13) ++ ([(TCached.mk v8b y_40 r4)]))) else none)) else none))
noncomputable def erasureref30_Lookup  (k : Nat) (t0 : TCache) (o1 : (List TCached)) (A2 : (List TEntry)) (r3 : TValue) (r4 : Int) : Option ((List TCached) × (List TEntry) × Int) := (erasureref30_Valid k o1).bind fun y_1 => (if (!y_1) = true then (some (([] : List TCached), ([] : List TEntry), 1)) else ((erasureref06_Valid k A2).bind fun y_4 => (if (!y_4) = true then (some (([] : List TCached), ([] : List TEntry), 1)) else ((erasureref30_ranged k t0 r4).bind fun y_7 => (if (!y_7) = true then (some (([] : List TCached), ([] : List TEntry), 1)) else ((erasureref01_Clean k r3).bind fun y_10 => ((erasureref30_Expire k t0 o1 r4).bind fun y_12 => (erasureref30_Lookup.p1 k A2 r4 0 t0 y_10 y_12))))))))
noncomputable def erasureref30_Lookup.t : List Item := [.code (bodyOf Try.f19)]
noncomputable def erasureref30_Lookup.s (t0 : TCache) (o1 : (List TCached)) (A2 : (List TEntry)) (r3 : TValue) (r4 : Int) : St := ⟨frOf Try.f19.ntmps 0 [(0, .agg ((cCache t0).map .p)), (1, .p (eL 5 cCached dCached o1)), (2, .p (eL 2 cEntry dEntry A2)), (3, .agg ((cValue r3).map .p)), (4, .p (.int .i64 r4))], []⟩
noncomputable def erasureref30_Lookup.p1.t : List Item := nav 16 [false] erasureref30_Lookup.t
noncomputable def erasureref30_Lookup.p1.s (A2 : (List TEntry)) (r4 : Int) (v14 : Int) (a5b : TCache) (v8b : TValue) (v13 : (List TCached)) : St := ⟨frOf Try.f19.ntmps 0 [(2, .p (eL 2 cEntry dEntry A2)), (4, .p (.int .i64 r4)), (5, .ptr 0 0 0), (8, .ptr 1 0 0), (13, .sref 2 46 5 (v13).length), (14, .p (.int .i64 v14))], [.box ((cCache a5b).map .p), .box ((cValue v8b).map .p), (oL true 46 5 cCached dCached v13)]⟩
noncomputable def erasureref30_Lookup.p2.t : List Item := nav 16 [false, true] erasureref30_Lookup.p1.t
noncomputable def erasureref30_Lookup.p2.s (A2 : (List TEntry)) (r4 : Int) (v15 : Int) (v16 : Int) (a5b : TCache) (v8b : TValue) (v13 : (List TCached)) : St := ⟨frOf Try.f19.ntmps 0 [(2, .p (eL 2 cEntry dEntry A2)), (4, .p (.int .i64 r4)), (5, .ptr 0 0 0), (8, .ptr 1 0 0), (13, .sref 2 46 5 (v13).length), (15, .p (.int .i64 v15)), (16, .p (.int .i64 v16))], [.box ((cCache a5b).map .p), .box ((cValue v8b).map .p), (oL true 46 5 cCached dCached v13)]⟩
noncomputable def erasureref30_Lookup.p3.t : List Item := nav 13 [false] erasureref30_Lookup.p2.t
noncomputable def erasureref30_Lookup.p3.s (A2 : (List TEntry)) (v18 : Int) (a5b : TCache) (v8b : TValue) (v17 : (List TCached)) : St := ⟨frOf Try.f19.ntmps 0 [(2, .p (eL 2 cEntry dEntry A2)), (5, .ptr 0 0 0), (8, .ptr 1 0 0), (17, .sref 2 46 5 (v17).length), (18, .p (.int .i64 v18))], [.box ((cCache a5b).map .p), .box ((cValue v8b).map .p), (oL true 46 5 cCached dCached v17)]⟩
theorem erasureref30_Lookup.p3.run   : ∀ (k : Nat) (A2 : (List TEntry)) (v18 : Int) (a5b : TCache) (v8b : TValue) (v17 : (List TCached)) (r : ((List TCached) × (List TEntry) × Int)), erasureref30_Lookup.p3 k A2 v18 a5b v8b v17 = some r → RunC Try.prog Try.f19 erasureref30_Lookup.p3.t (erasureref30_Lookup.p3.s A2 v18 a5b v8b v17) (.tup [.sref 0 46 5 (r.1).length, .p ((eL 2 cEntry dEntry r.2.1)), .p (.int .i64 r.2.2)]) [(oL true 46 5 cCached dCached (r.1))] := by
  intro k
  induction k with
  | zero => intro A2 v18 a5b v8b v17 r h; simp [erasureref30_Lookup.p3] at h
  | succ k ih =>
    intro A2 v18 a5b v8b v17 r h
    rw [erasureref30_Lookup.p3] at h
    rcases ite_or h with ⟨g_29, h⟩ | ⟨g_29, h⟩
    · obtain ⟨g_30, h⟩ := ite_some h
      obtain ⟨g_31, h⟩ := ite_some h
      obtain ⟨y_32, e_33, h⟩ := bind_or h
      rcases ite_or h with ⟨g_34, h⟩ | ⟨g_34, h⟩
      · exact RunC.go [.n 2, .r [(2, .dec true), (14, .call (.p (.int .i64 y_32)) []), (16, .dec true)], .n 4, .r [(15, .obj (oL true 46 5 cCached dCached (v17.set (IntKind.i64.wrap (v18 - 1)).toNat (v17.getD v18.toNat dCached)))), (17, .obj (oL true 46 5 cCached dCached ((v17.set (IntKind.i64.wrap (v18 - 1)).toNat (v17.getD v18.toNat dCached)).set v18.toNat (v17.getD (IntKind.i64.wrap (v18 - 1)).toNat dCached))))], .n 3, .k [2, 5, 8, 17, 18]] (by kernel_rfl) (Obs.of (by kernel_rfl) (And.intro g_29 (And.intro g_30 (And.intro g_31 (And.intro (erasureref01_Compare.spec e_33) (And.intro g_34 (And.intro g_30 (And.intro g_31 (And.intro g_31 (And.intro (le_set 46 5 cCached dCached v17 (v17.getD v18.toNat dCached) (IntKind.i64.wrap (v18 - 1)).toNat rfl) (And.intro g_30 (le_set 46 5 cCached dCached (v17.set (IntKind.i64.wrap (v18 - 1)).toNat (v17.getD v18.toNat dCached)) (v17.getD (IntKind.i64.wrap (v18 - 1)).toNat dCached) v18.toNat rfl)))))))))))) (ih _ _ _ _ _ r h)
      · obtain ⟨y_35, e_36, h⟩ := bind_or h
        obtain rfl := Option.some.inj h
        exact RunC.out [.n 2, .r [(2, .dec true), (14, .call (.p (.int .i64 y_32)) []), (16, .dec false)], .n 3, .r [(5, .call (.sref 0 36 2 (y_35).length) [(oL true 36 2 cEntry dEntry y_35)])], .f 11] (by kernel_rfl) (Obs.of (by kernel_rfl) (And.intro g_29 (And.intro g_30 (And.intro g_31 (And.intro (erasureref01_Compare.spec e_33) (And.intro (nt g_34) (erasureref30_Select.spec e_36)))))))
    · obtain ⟨y_37, e_38, h⟩ := bind_or h
      obtain rfl := Option.some.inj h
      exact RunC.out [.n 2, .r [(2, .dec false)], .n 3, .r [(5, .call (.sref 0 36 2 (y_37).length) [(oL true 36 2 cEntry dEntry y_37)])], .f 11] (by kernel_rfl) (Obs.of (by kernel_rfl) (And.intro (nt g_29) (erasureref30_Select.spec e_38)))
theorem erasureref30_Lookup.p2.run   : ∀ (k : Nat) (A2 : (List TEntry)) (r4 : Int) (v15 : Int) (v16 : Int) (a5b : TCache) (v8b : TValue) (v13 : (List TCached)) (r : ((List TCached) × (List TEntry) × Int)), erasureref30_Lookup.p2 k A2 r4 v15 v16 a5b v8b v13 = some r → RunC Try.prog Try.f19 erasureref30_Lookup.p2.t (erasureref30_Lookup.p2.s A2 r4 v15 v16 a5b v8b v13) (.tup [.sref 0 46 5 (r.1).length, .p ((eL 2 cEntry dEntry r.2.1)), .p (.int .i64 r.2.2)]) [(oL true 46 5 cCached dCached (r.1))] := by
  intro k
  induction k with
  | zero => intro A2 r4 v15 v16 a5b v8b v13 r h; simp [erasureref30_Lookup.p2] at h
  | succ k ih =>
    intro A2 r4 v15 v16 a5b v8b v13 r h
    rw [erasureref30_Lookup.p2] at h
    rcases ite_or h with ⟨g_18, h⟩ | ⟨g_18, h⟩
    · obtain ⟨g_19, h⟩ := ite_some h
      obtain ⟨g_20, h⟩ := ite_some h
      rcases ite_or h with ⟨g_21, h⟩ | ⟨g_21, h⟩
      · exact RunC.go [.n 2, .r [(3, .dec true)], .n 5, .r [(10, .dec true)], .n 5, .k [2, 4, 5, 8, 13, 15, 16]] (by kernel_rfl) (Obs.of (by kernel_rfl) (And.intro g_18 (And.intro g_19 (And.intro g_20 g_21)))) (ih _ _ _ _ _ _ _ r h)
      · exact RunC.go [.n 2, .r [(3, .dec true)], .n 5, .r [(10, .dec false)], .n 5, .k [2, 4, 5, 8, 13, 15, 16]] (by kernel_rfl) (Obs.of (by kernel_rfl) (And.intro g_18 (And.intro g_19 (And.intro g_20 (nt g_21))))) (ih _ _ _ _ _ _ _ r h)
    · obtain ⟨g_22, h⟩ := ite_some h
      obtain ⟨y_23, e_24, h⟩ := bind_or h
      obtain ⟨g_25, h⟩ := ite_some h
      obtain ⟨y_26, e_27, h⟩ := bind_or h
      obtain ⟨g_28, h⟩ := ite_some h
      exact RunC.go [.n 2, .r [(3, .dec false)], .n 2, .r [(6, .call (.sref 0 46 5 (y_23).length) [(oL true 46 5 cCached dCached y_23)])], .n 1, .r [(0, .obj (oL true 46 5 cCached dCached ([] : List TCached))), (2, .obj (oL true 46 5 cCached dCached (([] : List TCached) ++ y_23))), (8, .call (.sref 0 36 2 (y_26).length) [(oL true 36 2 cEntry dEntry y_26)]), (11, .obj (oL true 46 5 cCached dCached [(TCached.mk v8b y_26 r4)])), (12, .obj (oL true 46 5 cCached dCached ((([] : List TCached) ++ y_23) ++ ([(TCached.mk v8b y_26 r4)]))))], .n 5, .k [2, 5, 8, 17, 18]] (by kernel_rfl) (Obs.of (by kernel_rfl) (And.intro (nt g_18) (And.intro g_22 (And.intro (erasureref30_without.spec e_24) (And.intro (le_build0 46 5 cCached dCached) (And.intro (And.intro g_25 (le_app 46 5 cCached dCached ([] : List TCached) y_23)) (And.intro (erasureref30_Select.spec e_27) (And.intro (le_one 46 5 cCached dCached (TCached.mk v8b y_26 r4)) (And.intro g_28 (le_app 46 5 cCached dCached (([] : List TCached) ++ y_23) ([(TCached.mk v8b y_26 r4)]))))))))))) (erasureref30_Lookup.p3.run k _ _ _ _ _ r h)
theorem erasureref30_Lookup.p1.run   : ∀ (k : Nat) (A2 : (List TEntry)) (r4 : Int) (v14 : Int) (a5b : TCache) (v8b : TValue) (v13 : (List TCached)) (r : ((List TCached) × (List TEntry) × Int)), erasureref30_Lookup.p1 k A2 r4 v14 a5b v8b v13 = some r → RunC Try.prog Try.f19 erasureref30_Lookup.p1.t (erasureref30_Lookup.p1.s A2 r4 v14 a5b v8b v13) (.tup [.sref 0 46 5 (r.1).length, .p ((eL 2 cEntry dEntry r.2.1)), .p (.int .i64 r.2.2)]) [(oL true 46 5 cCached dCached (r.1))] := by
  intro k
  induction k with
  | zero => intro A2 r4 v14 a5b v8b v13 r h; simp [erasureref30_Lookup.p1] at h
  | succ k ih =>
    intro A2 r4 v14 a5b v8b v13 r h
    rw [erasureref30_Lookup.p1] at h
    rcases ite_or h with ⟨g_14, h⟩ | ⟨g_14, h⟩
    · obtain ⟨g_15, h⟩ := ite_some h
      rcases ite_or h with ⟨g_16, h⟩ | ⟨g_16, h⟩
      · obtain rfl := Option.some.inj h
        exact RunC.out [.n 2, .r [(3, .dec true)], .n 5, .r [(6, .dec true)], .n 3] (by kernel_rfl) (Obs.of (by kernel_rfl) (And.intro g_14 (And.intro g_15 (And.intro g_16 g_15))))
      · exact RunC.go [.n 2, .r [(3, .dec true)], .n 5, .r [(6, .dec false)], .n 5, .k [2, 4, 5, 8, 13, 14]] (by kernel_rfl) (Obs.of (by kernel_rfl) (And.intro g_14 (And.intro g_15 (nt g_16)))) (ih _ _ _ _ _ _ r h)
    · rcases ite_or h with ⟨g_17, h⟩ | ⟨g_17, h⟩
      · exact RunC.go [.n 2, .r [(3, .dec false)], .n 4, .r [(2, .dec true)], .n 8, .k [2, 4, 5, 8, 13, 15, 16]] (by kernel_rfl) (Obs.of (by kernel_rfl) (And.intro (nt g_14) g_17)) (erasureref30_Lookup.p2.run k _ _ _ _ _ _ _ r h)
      · obtain ⟨g_39, h⟩ := ite_some h
        obtain ⟨y_40, e_41, h⟩ := bind_or h
        obtain ⟨g_42, h⟩ := ite_some h
        exact RunC.go [.n 2, .r [(3, .dec false)], .n 4, .r [(2, .dec false)], .n 3, .r [(0, .obj (oL true 46 5 cCached dCached ([] : List TCached))), (2, .obj (oL true 46 5 cCached dCached (([] : List TCached) ++ v13))), (8, .call (.sref 0 36 2 (y_40).length) [(oL true 36 2 cEntry dEntry y_40)]), (11, .obj (oL true 46 5 cCached dCached [(TCached.mk v8b y_40 r4)])), (12, .obj (oL true 46 5 cCached dCached ((([] : List TCached) ++ v13) ++ ([(TCached.mk v8b y_40 r4)]))))], .n 5, .k [2, 5, 8, 17, 18]] (by kernel_rfl) (Obs.of (by kernel_rfl) (And.intro (nt g_14) (And.intro (nt g_17) (And.intro (le_build0 46 5 cCached dCached) (And.intro (And.intro g_39 (le_app 46 5 cCached dCached ([] : List TCached) v13)) (And.intro (erasureref30_Select.spec e_41) (And.intro (le_one 46 5 cCached dCached (TCached.mk v8b y_40 r4)) (And.intro g_42 (le_app 46 5 cCached dCached (([] : List TCached) ++ v13) ([(TCached.mk v8b y_40 r4)])))))))))) (erasureref30_Lookup.p3.run k _ _ _ _ _ r h)
theorem erasureref30_Lookup.run   {k : Nat} {t0 : TCache} {o1 : (List TCached)} {A2 : (List TEntry)} {r3 : TValue} {r4 : Int} {r : ((List TCached) × (List TEntry) × Int)} (h : erasureref30_Lookup k t0 o1 A2 r3 r4 = some r) : RunC Try.prog Try.f19 erasureref30_Lookup.t (erasureref30_Lookup.s t0 o1 A2 r3 r4) (.tup [.sref 0 46 5 (r.1).length, .p ((eL 2 cEntry dEntry r.2.1)), .p (.int .i64 r.2.2)]) [(oL true 46 5 cCached dCached (r.1))] := by
  unfold erasureref30_Lookup at h
  obtain ⟨y_1, e_2, h⟩ := bind_or h
  rcases ite_or h with ⟨g_3, h⟩ | ⟨g_3, h⟩
  · obtain rfl := Option.some.inj h
    exact RunC.out [.n 1, .r [(2, .obj (oL true 46 5 cCached dCached ([] : List TCached))), (3, .obj (oL true 36 2 cEntry dEntry ([] : List TEntry)))], .n 2, .r [(1, .call (.p (.bool y_1)) []), (3, .dec true)], .n 2, .r [(0, .obj (oL true 46 5 cCached dCached ([] : List TCached))), (1, .obj (oL true 36 2 cEntry dEntry ([] : List TEntry)))], .f 11] (by kernel_rfl) (Obs.of (by kernel_rfl) (And.intro (le_nil 46 5 cCached dCached) (And.intro (le_nil 36 2 cEntry dEntry) (And.intro (erasureref30_Valid.spec e_2) (And.intro g_3 (And.intro (le_nil 46 5 cCached dCached) (le_nil 36 2 cEntry dEntry)))))))
  · obtain ⟨y_4, e_5, h⟩ := bind_or h
    rcases ite_or h with ⟨g_6, h⟩ | ⟨g_6, h⟩
    · obtain rfl := Option.some.inj h
      exact RunC.out [.n 1, .r [(2, .obj (oL true 46 5 cCached dCached ([] : List TCached))), (3, .obj (oL true 36 2 cEntry dEntry ([] : List TEntry)))], .n 2, .r [(1, .call (.p (.bool y_1)) []), (3, .dec false), (5, .call (.p (.bool y_4)) []), (8, .dec true)], .n 2, .r [(0, .obj (oL true 46 5 cCached dCached ([] : List TCached))), (1, .obj (oL true 36 2 cEntry dEntry ([] : List TEntry)))], .f 11] (by kernel_rfl) (Obs.of (by kernel_rfl) (And.intro (le_nil 46 5 cCached dCached) (And.intro (le_nil 36 2 cEntry dEntry) (And.intro (erasureref30_Valid.spec e_2) (And.intro (nt g_3) (And.intro (erasureref06_Valid.spec e_5) (And.intro g_6 (And.intro (le_nil 46 5 cCached dCached) (le_nil 36 2 cEntry dEntry)))))))))
    · obtain ⟨y_7, e_8, h⟩ := bind_or h
      rcases ite_or h with ⟨g_9, h⟩ | ⟨g_9, h⟩
      · obtain rfl := Option.some.inj h
        exact RunC.out [.n 1, .r [(2, .obj (oL true 46 5 cCached dCached ([] : List TCached))), (3, .obj (oL true 36 2 cEntry dEntry ([] : List TEntry)))], .n 2, .r [(1, .call (.p (.bool y_1)) []), (3, .dec false), (5, .call (.p (.bool y_4)) []), (8, .dec false), (11, .call (.p (.bool y_7)) []), (13, .dec true)], .n 2, .r [(0, .obj (oL true 46 5 cCached dCached ([] : List TCached))), (1, .obj (oL true 36 2 cEntry dEntry ([] : List TEntry)))], .f 11] (by kernel_rfl) (Obs.of (by kernel_rfl) (And.intro (le_nil 46 5 cCached dCached) (And.intro (le_nil 36 2 cEntry dEntry) (And.intro (erasureref30_Valid.spec e_2) (And.intro (nt g_3) (And.intro (erasureref06_Valid.spec e_5) (And.intro (nt g_6) (And.intro (erasureref30_ranged.spec e_8) (And.intro g_9 (And.intro (le_nil 46 5 cCached dCached) (le_nil 36 2 cEntry dEntry)))))))))))
      · obtain ⟨y_10, e_11, h⟩ := bind_or h
        obtain ⟨y_12, e_13, h⟩ := bind_or h
        exact RunC.go [.n 1, .r [(2, .obj (oL true 46 5 cCached dCached ([] : List TCached))), (3, .obj (oL true 36 2 cEntry dEntry ([] : List TEntry)))], .n 2, .r [(1, .call (.p (.bool y_1)) []), (3, .dec false), (5, .call (.p (.bool y_4)) []), (8, .dec false), (11, .call (.p (.bool y_7)) []), (13, .dec false)], .n 3, .r [(1, .call (.agg ((cValue y_10).map .p)) [])], .n 1, .r [(3, .call (.sref 0 46 5 (y_12).length) [(oL true 46 5 cCached dCached y_12)])], .n 5, .k [2, 4, 5, 8, 13, 14]] (by kernel_rfl) (Obs.of (by kernel_rfl) (And.intro (le_nil 46 5 cCached dCached) (And.intro (le_nil 36 2 cEntry dEntry) (And.intro (erasureref30_Valid.spec e_2) (And.intro (nt g_3) (And.intro (erasureref06_Valid.spec e_5) (And.intro (nt g_6) (And.intro (erasureref30_ranged.spec e_8) (And.intro (nt g_9) (And.intro (erasureref01_Clean.spec e_11) (erasureref30_Expire.spec e_13))))))))))) (erasureref30_Lookup.p1.run k _ _ _ _ _ _ r h)
theorem erasureref30_Lookup.p3.mono   : ∀ (k k' : Nat) (A2 : (List TEntry)) (v18 : Int) (a5b : TCache) (v8b : TValue) (v17 : (List TCached)) (r : ((List TCached) × (List TEntry) × Int)), k ≤ k' → erasureref30_Lookup.p3 k A2 v18 a5b v8b v17 = some r → erasureref30_Lookup.p3 k' A2 v18 a5b v8b v17 = some r := by
  intro k
  induction k with
  | zero => intro k' A2 v18 a5b v8b v17 r hk h; simp [erasureref30_Lookup.p3] at h
  | succ k ih =>
    intro k' A2 v18 a5b v8b v17 r hk h
    obtain ⟨k', rfl⟩ : ∃ m, k' = m + 1 := ⟨k' - 1, by omega⟩
    replace hk := Nat.le_of_succ_le_succ hk
    rw [erasureref30_Lookup.p3] at h ⊢
    rcases ite_or h with ⟨g_29, h⟩ | ⟨g_29, h⟩
    · refine itp g_29 ?_
      obtain ⟨g_30, h⟩ := ite_some h
      refine itp g_30 ?_
      obtain ⟨g_31, h⟩ := ite_some h
      refine itp g_31 ?_
      obtain ⟨y_32, e_33, h⟩ := bind_or h
      refine bnd (erasureref01_Compare.mono _ _ _ _ _ hk e_33) ?_
      rcases ite_or h with ⟨g_34, h⟩ | ⟨g_34, h⟩
      · refine itp g_34 ?_
        exact ih _ _ _ _ _ _ r hk h
      · refine itn g_34 ?_
        obtain ⟨y_35, e_36, h⟩ := bind_or h
        refine bnd (erasureref30_Select.mono _ _ _ _ _ _ hk e_36) ?_
        exact h
    · refine itn g_29 ?_
      obtain ⟨y_37, e_38, h⟩ := bind_or h
      refine bnd (erasureref30_Select.mono _ _ _ _ _ _ hk e_38) ?_
      exact h
theorem erasureref30_Lookup.p2.mono   : ∀ (k k' : Nat) (A2 : (List TEntry)) (r4 : Int) (v15 : Int) (v16 : Int) (a5b : TCache) (v8b : TValue) (v13 : (List TCached)) (r : ((List TCached) × (List TEntry) × Int)), k ≤ k' → erasureref30_Lookup.p2 k A2 r4 v15 v16 a5b v8b v13 = some r → erasureref30_Lookup.p2 k' A2 r4 v15 v16 a5b v8b v13 = some r := by
  intro k
  induction k with
  | zero => intro k' A2 r4 v15 v16 a5b v8b v13 r hk h; simp [erasureref30_Lookup.p2] at h
  | succ k ih =>
    intro k' A2 r4 v15 v16 a5b v8b v13 r hk h
    obtain ⟨k', rfl⟩ : ∃ m, k' = m + 1 := ⟨k' - 1, by omega⟩
    replace hk := Nat.le_of_succ_le_succ hk
    rw [erasureref30_Lookup.p2] at h ⊢
    rcases ite_or h with ⟨g_18, h⟩ | ⟨g_18, h⟩
    · refine itp g_18 ?_
      obtain ⟨g_19, h⟩ := ite_some h
      refine itp g_19 ?_
      obtain ⟨g_20, h⟩ := ite_some h
      refine itp g_20 ?_
      rcases ite_or h with ⟨g_21, h⟩ | ⟨g_21, h⟩
      · refine itp g_21 ?_
        exact ih _ _ _ _ _ _ _ _ r hk h
      · refine itn g_21 ?_
        exact ih _ _ _ _ _ _ _ _ r hk h
    · refine itn g_18 ?_
      obtain ⟨g_22, h⟩ := ite_some h
      refine itp g_22 ?_
      obtain ⟨y_23, e_24, h⟩ := bind_or h
      refine bnd (erasureref30_without.mono _ _ _ _ _ hk e_24) ?_
      obtain ⟨g_25, h⟩ := ite_some h
      refine itp g_25 ?_
      obtain ⟨y_26, e_27, h⟩ := bind_or h
      refine bnd (erasureref30_Select.mono _ _ _ _ _ _ hk e_27) ?_
      obtain ⟨g_28, h⟩ := ite_some h
      refine itp g_28 ?_
      exact erasureref30_Lookup.p3.mono _ _ _ _ _ _ _ r hk h
theorem erasureref30_Lookup.p1.mono   : ∀ (k k' : Nat) (A2 : (List TEntry)) (r4 : Int) (v14 : Int) (a5b : TCache) (v8b : TValue) (v13 : (List TCached)) (r : ((List TCached) × (List TEntry) × Int)), k ≤ k' → erasureref30_Lookup.p1 k A2 r4 v14 a5b v8b v13 = some r → erasureref30_Lookup.p1 k' A2 r4 v14 a5b v8b v13 = some r := by
  intro k
  induction k with
  | zero => intro k' A2 r4 v14 a5b v8b v13 r hk h; simp [erasureref30_Lookup.p1] at h
  | succ k ih =>
    intro k' A2 r4 v14 a5b v8b v13 r hk h
    obtain ⟨k', rfl⟩ : ∃ m, k' = m + 1 := ⟨k' - 1, by omega⟩
    replace hk := Nat.le_of_succ_le_succ hk
    rw [erasureref30_Lookup.p1] at h ⊢
    rcases ite_or h with ⟨g_14, h⟩ | ⟨g_14, h⟩
    · refine itp g_14 ?_
      obtain ⟨g_15, h⟩ := ite_some h
      refine itp g_15 ?_
      rcases ite_or h with ⟨g_16, h⟩ | ⟨g_16, h⟩
      · refine itp g_16 ?_
        exact h
      · refine itn g_16 ?_
        exact ih _ _ _ _ _ _ _ r hk h
    · refine itn g_14 ?_
      rcases ite_or h with ⟨g_17, h⟩ | ⟨g_17, h⟩
      · refine itp g_17 ?_
        exact erasureref30_Lookup.p2.mono _ _ _ _ _ _ _ _ _ r hk h
      · refine itn g_17 ?_
        obtain ⟨g_39, h⟩ := ite_some h
        refine itp g_39 ?_
        obtain ⟨y_40, e_41, h⟩ := bind_or h
        refine bnd (erasureref30_Select.mono _ _ _ _ _ _ hk e_41) ?_
        obtain ⟨g_42, h⟩ := ite_some h
        refine itp g_42 ?_
        exact erasureref30_Lookup.p3.mono _ _ _ _ _ _ _ r hk h
theorem erasureref30_Lookup.mono   : ∀ (k k' : Nat) (t0 : TCache) (o1 : (List TCached)) (A2 : (List TEntry)) (r3 : TValue) (r4 : Int) (r : ((List TCached) × (List TEntry) × Int)), k ≤ k' → erasureref30_Lookup k t0 o1 A2 r3 r4 = some r → erasureref30_Lookup k' t0 o1 A2 r3 r4 = some r := by
  intro k k' t0 o1 A2 r3 r4 r hk h
  unfold erasureref30_Lookup at h ⊢
  obtain ⟨y_1, e_2, h⟩ := bind_or h
  refine bnd (erasureref30_Valid.mono _ _ _ _ hk e_2) ?_
  rcases ite_or h with ⟨g_3, h⟩ | ⟨g_3, h⟩
  · refine itp g_3 ?_
    exact h
  · refine itn g_3 ?_
    obtain ⟨y_4, e_5, h⟩ := bind_or h
    refine bnd (erasureref06_Valid.mono _ _ _ _ hk e_5) ?_
    rcases ite_or h with ⟨g_6, h⟩ | ⟨g_6, h⟩
    · refine itp g_6 ?_
      exact h
    · refine itn g_6 ?_
      obtain ⟨y_7, e_8, h⟩ := bind_or h
      refine bnd (erasureref30_ranged.mono _ _ _ _ _ hk e_8) ?_
      rcases ite_or h with ⟨g_9, h⟩ | ⟨g_9, h⟩
      · refine itp g_9 ?_
        exact h
      · refine itn g_9 ?_
        obtain ⟨y_10, e_11, h⟩ := bind_or h
        refine bnd (erasureref01_Clean.mono _ _ _ _ hk e_11) ?_
        obtain ⟨y_12, e_13, h⟩ := bind_or h
        refine bnd (erasureref30_Expire.mono _ _ _ _ _ _ hk e_13) ?_
        exact erasureref30_Lookup.p1.mono _ _ _ _ _ _ _ _ r hk h
theorem erasureref30_Lookup.spec {k : Nat} {t0 : TCache} {o1 : (List TCached)} {A2 : (List TEntry)} {r3 : TValue} {r4 : Int} {r : ((List TCached) × (List TEntry) × Int)} (h : erasureref30_Lookup k t0 o1 A2 r3 r4 = some r) : Spec Try.prog 19 [.agg ((cCache t0).map .p), .p (eL 5 cCached dCached o1), .p (eL 2 cEntry dEntry A2), .agg ((cValue r3).map .p), .p (.int .i64 r4)] (.tup [.sref 0 46 5 (r.1).length, .p ((eL 2 cEntry dEntry r.2.1)), .p (.int .i64 r.2.2)]) [(oL true 46 5 cCached dCached (r.1))] :=
  spec_of mix Try.func19 (body := bodyOf Try.f19) (by kernel_rfl) (by kernel_rfl) (erasureref30_Lookup.run h)
end Go.Proofs.YtjhnpaenhdbhpabV
set_option linter.unusedVariables false
set_option linter.unusedSimpArgs false
namespace Go.Proofs.YtjhnpaenhdbhpabV
open Go Go.RowKit
theorem filter_other : ∀ (l : List TCached) (n : Nat), Ord l → n < l.length → (l.filter fun x => !decide (x.f0 = (l.getD n dCached).f0)) = l.take n ++ l.drop (n + 1)
  | [], n, _, h => by simp at h
  | a :: l, 0, ho, _ => by
    have hne : ∀ x ∈ l, (!decide (x.f0 = a.f0)) = true := by
      intro x hx
      have := (List.pairwise_cons.1 ho).1 x hx
      rw [Bool.not_eq_true', decide_eq_false_iff_not]
      intro e; rw [e, cmpV_self] at this; omega
    show (List.filter (fun x => !decide (x.f0 = a.f0)) (a :: l)) = l
    rw [List.filter_cons, if_neg (by simp), List.filter_eq_self.2 hne]
  | a :: l, n + 1, ho, h => by
    have hn : n < l.length := by simpa using h
    have ih := filter_other l n (List.pairwise_cons.1 ho).2 hn
    have hm : l.getD n dCached ∈ l := by rw [List.getD_eq_getElem?_getD, List.getElem?_eq_getElem hn]; exact List.getElem_mem _
    have hne : a.f0 ≠ (l.getD n dCached).f0 := fun e => by
      have := (List.pairwise_cons.1 ho).1 _ hm
      rw [← e, cmpV_self] at this; omega
    show (List.filter (fun x => !decide (x.f0 = (l.getD n dCached).f0)) (a :: l)) = a :: (l.take n ++ l.drop (n + 1))
    rw [List.filter_cons, if_pos (by rw [decide_eq_false hne]; rfl), ih]
end Go.Proofs.YtjhnpaenhdbhpabV
set_option linter.unusedVariables false
set_option linter.unusedSimpArgs false
namespace Go.Proofs.YtjhnpaenhdbhpabV
open Go Go.RowKit
theorem and7 (x : Int) : 0 ≤ Go.bits .and .i64 x 7 ∧ Go.bits .and .i64 x 7 ≤ 7 := by
  have hb : (IntKind.i64).bits = 64 := rfl
  unfold Go.bits
  simp only [BitVec.toNat_and, BitVec.toNat_ofInt, hb]
  have h := Nat.and_le_right (n := ((x % ((2 ^ 64 : Nat) : Int)).toNat)) (m := ((7 % ((2 ^ 64 : Nat) : Int)).toNat))
  have h7 : ((7 : Int) % ((2 ^ 64 : Nat) : Int)).toNat = 7 := by decide
  rw [h7] at h ⊢
  rw [IntKind.wrap_i64]
  omega
theorem awake30_ev : Ev (fun k => erasurelaw30_awake k) true := Ev.of (fun k k' hk h => erasurelaw30_awake.mono k k' true hk h) (k := 60) (by kernel_rfl)
theorem insC_len (w : TValue) (y : TCached) : ∀ l : List TCached, (insC w y l).length = l.length + 1
  | [] => rfl
  | x :: l => by rw [insC_cons]; split <;> simp [insC_len w y l]
theorem insC_mem (w : TValue) (y : TCached) : ∀ l : List TCached, ∀ x ∈ insC w y l, x = y ∨ x ∈ l
  | [], x, hx => by left; simpa [insC] using hx
  | z :: l, x, hx => by
    rw [insC_cons] at hx
    split at hx
    · rcases List.mem_cons.1 hx with rfl | hx
      · exact .inr (List.mem_cons_self ..)
      · exact (insC_mem w y l x hx).imp id (List.mem_cons_of_mem _)
    · rcases List.mem_cons.1 hx with rfl | hx
      · exact .inl rfl
      · exact .inr hx
theorem bounds_p3 (s t : List TCached) (b : Nat) (hb : b < s.length) (ht : t.length ≤ 17) (hne : ∀ x ∈ t, x.f0 ≠ (s.getD b dCached).f0) : ∀ i, i ≤ t.length → Ev (fun k => erasurelaw30_CacheBounds.p3 k (b : Int) (i : Int) s t) true := by
  refine loop_down (P := fun i => Ev (fun k => erasurelaw30_CacheBounds.p3 k (b : Int) (i : Int) s t) true) t.length ?_ ?_
  · refine Ev.succ ?_
    simp only [erasurelaw30_CacheBounds.p3, decide_eq_true_eq]
    exact Ev.ite_neg (by omega) (Ev.bind awake30_ev (Ev.now _))
  · intro i hi ih
    refine Ev.succ ?_
    simp only [erasurelaw30_CacheBounds.p3, decide_eq_true_eq, eqV_iff]
    rw [wrn hi (by omega)]
    exact Ev.ite_pos (by omega) (Ev.ite_pos (by omega) (Ev.ite_pos (by omega) (Ev.ite_neg (hne _ (getD_mem _ hi)) ih)))
theorem oldestF_cons (l : List TCached) (b i : Nat) (x : TCached) (r : List TCached) : oldestF l b i (x :: r) = oldestF l (if x.f2 < (l.getD b dCached).f2 then i else b) (i + 1) r := rfl
theorem bounds_p2 (n : Int) (l : List Int) (hl : l.length = 16) (hd : ∀ d ∈ l, 0 ≤ d ∧ d ≤ 40) : ∀ i, i ≤ (entS 0 l).length → ∀ b, b < (entS 0 l).length → oldestF (entS 0 l) b i ((entS 0 l).drop i) = oldestF (entS 0 l) 0 1 ((entS 0 l).drop 1) →
    Ev (fun k => erasurelaw30_CacheBounds.p2 k n (b : Int) (i : Int) ⟨⟨#[]⟩, ⟨#[]⟩, 0, 1000⟩ (entS 0 l)) true := by
  have hs : (entS 0 l).length = 16 := by rw [entS_len, hl]
  have hm := and7 n
  refine loop_down (P := fun i => ∀ b, b < (entS 0 l).length → oldestF (entS 0 l) b i ((entS 0 l).drop i) = oldestF (entS 0 l) 0 1 ((entS 0 l).drop 1) → Ev (fun k => erasurelaw30_CacheBounds.p2 k n (b : Int) (i : Int) ⟨⟨#[]⟩, ⟨#[]⟩, 0, 1000⟩ (entS 0 l)) true) (entS 0 l).length ?_ ?_
  · intro b hb hold
    refine Ev.succ ?_
    simp only [erasurelaw30_CacheBounds.p2, decide_eq_true_eq]
    rw [wr (n := 100 + Go.bits .and .i64 n 7) (by omega)]
    generalize hq : 100 + Go.bits .and .i64 n 7 = q at *
    simp only [ref01_Int_eq _ (show -4294967296 ≤ q ∧ q ≤ 4294967296 by omega), Option.bind_some]
    rw [List.drop_length] at hold
    have hob : b = oldestF (entS 0 l) 0 1 ((entS 0 l).drop 1) := hold
    have hlk := Lookup_ev ⟨⟨#[]⟩, ⟨#[]⟩, 0, 1000⟩ (entS 0 l) [] (intV q) 41 (entS_fin l (by omega)) ⟨by simp, fun e he => by cases he⟩
    rw [look_new l (by omega) hd q 41 (by omega) (by omega) (fun x hx => by have := hd x hx; omega), if_pos (by omega)] at hlk
    refine Ev.ite_neg (by omega) (Ev.bind hlk ?_)
    have htl : (insC (intV q) ⟨intV q, [], 41⟩ (dropOld (entS 0 l))).length = 16 := by rw [insC_len, dropOld_len (by omega)]; omega
    refine Ev.ite_neg (by simp) (Ev.ite_neg (by rw [htl]; simp) ?_)
    refine bounds_p3 (entS 0 l) (insC (intV q) ⟨intV q, [], 41⟩ (dropOld (entS 0 l))) b hb (by omega) (fun x hx => ?_) 0 (by omega)
    have hbm : (entS 0 l).getD b dCached ∈ entS 0 l := by rw [List.getD_eq_getElem?_getD, List.getElem?_eq_getElem hb]; exact List.getElem_mem _
    obtain ⟨j, _, hj, hj2, _⟩ := entS_mem l 0 _ hbm
    rcases insC_mem _ _ _ x hx with rfl | hx
    · rw [hj2]
      intro e
      have : q = (j : Int) := congrArg TValue.f1 e
      omega
    · unfold dropOld at hx
      rw [← hob, ← filter_other (entS 0 l) b (cacheV_ord (entS_cache l (by omega) hd)) hb] at hx
      have := (List.mem_filter.1 hx).2
      simpa using this
  · intro i hi ih b hb hold
    refine Ev.succ ?_
    simp only [erasurelaw30_CacheBounds.p2, decide_eq_true_eq]
    rw [dC hi] at hold
    rw [wrn hi (by omega)]
    refine Ev.ite_pos (by omega) (Ev.ite_pos (by omega) (Ev.ite_pos (by omega) ?_))
    rw [oldestF_cons] at hold
    by_cases hc : ((entS 0 l).getD (i : Int).toNat dCached).f2 < ((entS 0 l).getD (b : Int).toNat dCached).f2
    · refine Ev.ite_pos hc ?_
      have hc' : ((entS 0 l).getD (i : Int).toNat dCached).f2 < ((entS 0 l).getD b dCached).f2 := hc
      rw [if_pos hc'] at hold
      exact ih i hi hold
    · refine Ev.ite_neg hc ?_
      have hc' : ¬ ((entS 0 l).getD (i : Int).toNat dCached).f2 < ((entS 0 l).getD b dCached).f2 := hc
      rw [if_neg hc'] at hold
      exact ih b hb hold
theorem bounds_p1 (n : Int) (order : List Int) (ho : order.length ≤ 9223372036854775807) : ∀ i, i ≤ 16 → ∀ (l : List Int) (last : Int), l.length = i → (∀ d ∈ l, 0 ≤ d ∧ d ≤ 40) → (∀ d ∈ l, d ≤ last) → 0 ≤ last ∧ last ≤ 40 →
    Ev (fun k => erasurelaw30_CacheBounds.p1 k n order last (i : Int) ⟨⟨#[]⟩, ⟨#[]⟩, 0, 1000⟩ (entS 0 l)) true := by
  refine loop_down (P := fun i => ∀ (l : List Int) (last : Int), l.length = i → (∀ d ∈ l, 0 ≤ d ∧ d ≤ 40) → (∀ d ∈ l, d ≤ last) → 0 ≤ last ∧ last ≤ 40 → Ev (fun k => erasurelaw30_CacheBounds.p1 k n order last (i : Int) ⟨⟨#[]⟩, ⟨#[]⟩, 0, 1000⟩ (entS 0 l)) true) 16 ?_ ?_
  · intro l last hl hd hle hlast
    refine Ev.succ ?_
    simp only [erasurelaw30_CacheBounds.p1, decide_eq_true_eq]
    have hs : (entS 0 l).length = 16 := by rw [entS_len, hl]
    exact Ev.ite_neg (by omega) (Ev.ite_neg (by rw [hs]; simp) (bounds_p2 n l hl hd 1 (by omega) 0 (by omega) rfl))
  · intro i hi ih l last hl hd hle hlast
    have step : ∀ D : Int, last ≤ D → D ≤ 40 → Ev (fun k => (cache_Lookup k ⟨⟨#[]⟩, ⟨#[]⟩, 0, 1000⟩ (entS 0 l) ([] : List TEntry) (intV (i : Int)) D).bind fun y_6 => (if (y_6.2.2 != 0) = true then (some false) else (erasurelaw30_CacheBounds.p1 k n order D ((i + 1 : Nat) : Int) ⟨⟨#[]⟩, ⟨#[]⟩, 0, 1000⟩ y_6.1))) true := by
      intro D h1 h2
      have hlk := Lookup_ev ⟨⟨#[]⟩, ⟨#[]⟩, 0, 1000⟩ (entS 0 l) [] (intV (i : Int)) D (entS_fin l (by omega)) ⟨by simp, fun e he => by cases he⟩
      rw [look_new l (by omega) hd (i : Int) D (by omega) (by omega) (fun x hx => by have := hle x hx; omega), if_neg (by omega)] at hlk
      have hins : insC (intV (i : Int)) ⟨intV (i : Int), [], D⟩ (entS 0 l) = entS 0 (l ++ [D]) := by
        rw [insC_all_lt, entS_app, Nat.zero_add, hl]
        intro x hx
        obtain ⟨j, _, hj, h3, _⟩ := entS_mem l 0 x hx
        rw [h3, cmpV_int (by omega) (by omega)]
        exact cmpI_neg.2 (by omega)
      rw [hins] at hlk
      refine Ev.bind hlk (Ev.ite_neg (by simp) ?_)
      refine ih (l ++ [D]) D (by simp [hl]) (fun d hx => ?_) (fun d hx => ?_) (by omega)
      · rcases List.mem_append.1 hx with hx | hx
        · exact hd d hx
        · rw [List.mem_singleton] at hx; omega
      · rcases List.mem_append.1 hx with hx | hx
        · have := hle d hx; omega
        · rw [List.mem_singleton] at hx; omega
    refine Ev.succ ?_
    simp only [erasurelaw30_CacheBounds.p1, decide_eq_true_eq]
    have hw1 : IntKind.i64.wrap ((i : Int) + 1) = ((i + 1 : Nat) : Int) := wrn hi (by omega)
    simp only [hw1, ref01_Int_eq _ (show -4294967296 ≤ (i : Int) ∧ (i : Int) ≤ 4294967296 by omega), Option.bind_some]
    refine Ev.ite_pos (by omega) ?_
    by_cases hm : i < order.length
    · refine Ev.ite_pos (by omega) (Ev.ite_pos (by omega) ?_)
      have hu : 0 ≤ IntKind.u64.wrap (order.getD (i : Int).toNat 0) := by simp only [IntKind.wrap]; exact Int.emod_nonneg _ (by decide)
      have hr : 0 ≤ (IntKind.u64.wrap (order.getD (i : Int).toNat 0)).tmod 40 ∧ (IntKind.u64.wrap (order.getD (i : Int).toNat 0)).tmod 40 < 40 := ⟨Int.tmod_nonneg _ hu, Int.tmod_lt_of_pos _ (by decide)⟩
      rw [wr (n := (IntKind.u64.wrap (order.getD (i : Int).toNat 0)).tmod 40) (by omega)]
      exact step _ (by split <;> omega) (by split <;> omega)
    · exact Ev.ite_neg (by omega) (step _ (by split <;> omega) (by split <;> omega))
theorem CacheBounds_std (x0 : Int) (x1 : (List Int)) (h0 : (Lit.int .i64 x0).wf = true) (h1 : (x1.length ≤ maxLen ∧ ∀ e0 ∈ x1, (Lit.int .i64 e0).wf = true)) : ∃ k, erasurelaw30_CacheBounds k x0 x1 = some true := by
  refine Ev.some (g := fun k => erasurelaw30_CacheBounds k x0 x1) ?_
  unfold erasurelaw30_CacheBounds
  exact bounds_p1 x0 x1 (by have := h1.1; simp only [maxLen] at this; omega) 0 (by omega) [] 0 rfl (fun d hd => by cases hd) (fun d hd => by cases hd) (by omega)
end Go.Proofs.YtjhnpaenhdbhpabV
set_option linter.unusedVariables false
set_option linter.unusedSimpArgs false
set_option linter.constructorNameAsVariable false
namespace Go.Proofs.YtjhnpaenhdbhpabV
open Go Go.RowKit
def RepL (F : Nat → Prop) (w : World) : List AV → List Value → Prop
  | [], [] => True
  | a :: l, v :: m => Rep F w a v ∧ RepL F w l m
  | _, _ => False
theorem RepL.len {F : Nat → Prop} {w : World} : ∀ {l : List AV} {m : List Value}, RepL F w l m → l.length = m.length
  | [], [], _ => rfl
  | _ :: _, _ :: _, h => by simp [RepL.len h.2]
  | [], _ :: _, h => h.elim
  | _ :: _, [], h => h.elim
theorem RepL.get {F : Nat → Prop} {w : World} : ∀ {l : List AV} {m : List Value}, RepL F w l m → ∀ (i : Nat) (v : Value), m[i]? = some v → Rep F w (l.getD i .u) v
  | [], [], _, i, v, h => by simp at h
  | a :: l, u :: m, h, i, v, hv => by
    cases i with
    | zero =>
      simp only [List.getElem?_cons_zero, Option.some.injEq] at hv
      subst hv
      exact h.1
    | succ i => simpa using RepL.get h.2 i v (by simpa using hv)
  | [], _ :: _, h, _, _, _ => h.elim
  | _ :: _, [], h, _, _, _ => h.elim
theorem RepL.fv {F : Nat → Prop} {w : World} {κ : Nat → Value} {hp : List Ob} : ∀ {l : List AV} {m : List Value}, RepL F w l m → RelVs ⟨F, w, κ, hp⟩ (l.map .p) m
  | [], [], _ => by simp [RelVs]
  | a :: l, v :: m, h => by simp only [List.map_cons, RelVs]; exact ⟨v, m, rfl, by simp only [RelV]; exact h.1, RepL.fv h.2⟩
  | [], _ :: _, h => h.elim
  | _ :: _, [], h => h.elim
abbrev oldF (W : World) : Nat → Prop := fun b => b < W.heap.size
structure Op1 {α : Type} (P : Program) (t : TypeId) (c : α → List AV) (B : α → Prop) : Prop where mk ::
  out : ∀ {H : Type} (enc : TypeId × Value → H) (W : World) (fuel : Nat) (cs : List Value) (y : DataW H × List MemPlace), DataW.trod enc P W 0 (fun _ => true) true fuel t cs = some y → ∃ x, RepL (oldF W) W (c x) cs ∧ B x
theorem op1_int {P : Program} {t : TypeId} {k : IntKind} (ht : P.underlying t = some (.int k)) : Op1 P t (cI k) (fun n => (Lit.int k n).wf = true) := by
  constructor
  intro H enc W fuel cs y h
  obtain ⟨n, rfl, _, hw⟩ := DataW.trod_int ht h
  exact ⟨n, ⟨rfl, trivial⟩, hw⟩
theorem cell_add {W : World} {a : Addr} {n : Nat} {u : Value} (h : W.cell? (a.add n) = some u) : W.cell? ⟨a.block, a.off + n, none⟩ = some u := by
  unfold Addr.add at h
  split at h
  · rename_i hn
    subst hn
    have hs : a.spot = none := by
      unfold World.cell? at h
      split at h
      · split at h
        · cases h
        · rename_i hs; cases hq : a.spot with
          | none => rfl
          | some x => simp [hq] at hs
      · cases h
    cases a
    simp only at hs
    subst hs
    exact h
  · exact h
theorem spot_none {W : World} {a : Addr} {u : Value} (h : W.cell? a = some u) : a = ⟨a.block, a.off, none⟩ := by
  have hs : a.spot = none := by
    unfold World.cell? at h
    split at h
    · split at h
      · cases h
      · rename_i hs; cases hq : a.spot with
        | none => rfl
        | some x => simp [hq] at hs
    · cases h
  cases a
  simp only at hs
  subst hs
  rfl
theorem op1_slice {α : Type} {P : Program} {t e : TypeId} {sz : Nat} {c : α → List AV} (d : α) {B : α → Prop} (ht : P.underlying t = some (.slice e)) (hd : Op1 P e c B) (hc : P.cellsOf e = sz) (hs : ∀ x, (c x).length = sz) (h0 : 0 < sz) : Op1 P t (cL sz c d) (fun xs => xs.length ≤ maxLen ∧ ∀ x ∈ xs, B x) := by
  constructor
  intro H enc W fuel cs y h
  rcases DataW.trod_slice ht h with ⟨rfl, _⟩ | ⟨a, len, cap, elems, rest, n, _, rfl, _, _, hl, hm, hel, hat, _, _⟩
  · exact ⟨[], ⟨⟨none, 0, rfl, Nat.le_refl _, fun _ => rfl, .inl rfl⟩, trivial⟩, by simp [maxLen], fun x hx => by cases hx⟩
  · have key : ∀ i, i < len → ∃ x cs', cs'.length = sz ∧ RepL (oldF W) W (c x) cs' ∧ B x ∧ ∀ j u, cs'[j]? = some u → W.cell? (a.add (i * sz + j)) = some u := by
      intro i hi
      have h1 := hat i hi
      rw [List.getElem?_eq_getElem (by omega)] at h1
      obtain ⟨cs', h2, h3⟩ := Option.bind_eq_some_iff.1 h1
      obtain ⟨x, hk, hb⟩ := hd.out enc W n cs' _ h3
      have hlen : cs'.length = sz := by rw [← hs x, hk.len]
      refine ⟨x, cs', hlen, hk, hb, fun j u hu => ?_⟩
      rw [hc] at h2
      unfold World.cells? at h2
      rw [if_pos (Nat.zero_le _)] at h2
      have h4 := mapM_some_get h2 j j (by
        have := (List.getElem?_eq_some_iff.1 hu).1
        rw [hlen] at this
        simp [this])
      rw [hu] at h4
      have ha : (a.add (i * sz)).add j = a.add (i * sz + j) := by
        unfold Addr.add
        by_cases e1 : i * sz = 0 <;> by_cases e2 : j = 0 <;> simp [e1, e2, Nat.add_assoc]
      rw [ha] at h4
      exact h4
    have key2 : ∀ m, m ≤ len → ∃ xs : List α, xs.length = m ∧ (∀ x ∈ xs, B x) ∧ ∀ i x, xs[i]? = some x → ∃ cs', cs'.length = sz ∧ RepL (oldF W) W (c x) cs' ∧ ∀ j u, cs'[j]? = some u → W.cell? (a.add (i * sz + j)) = some u := by
      intro m
      induction m with
      | zero => intro _; exact ⟨[], rfl, fun x hx => (by cases hx), fun i x hx => by simp at hx⟩
      | succ m ih =>
        intro hm2
        obtain ⟨xs, h1, h2, h3⟩ := ih (by omega)
        obtain ⟨x, c', h4, h5, h6, h7⟩ := key m (by omega)
        refine ⟨xs ++ [x], by simp [h1], fun y hy => ?_, fun i y hy => ?_⟩
        · rcases List.mem_append.1 hy with hy | hy
          · exact h2 y hy
          · rw [List.mem_singleton.1 hy]; exact h6
        · rcases Nat.lt_or_ge i xs.length with hi | hi
          · rw [List.getElem?_append_left hi] at hy; exact h3 i y hy
          · have hi2 : i = xs.length := by
              have := (List.getElem?_eq_some_iff.1 hy).1
              simp at this
              omega
            subst hi2
            simp at hy
            subst hy
            rw [h1]
            exact ⟨c', h4, h5, h7⟩
    obtain ⟨xs, h1, h2, h3⟩ := key2 len (Nat.le_refl _)
    refine ⟨xs, ⟨⟨some a, cap, by rw [h1], by rw [h1]; omega, fun h => (nomatch h), ?_⟩, trivial⟩, by rw [h1]; simp only [maxLen] at hm ⊢; omega, h2⟩
    rcases Nat.eq_zero_or_pos len with hz | hz
    · left; rw [h1, hz]
    · right
      have hcell : ∀ i, i < len → ∀ j, j < sz → ∃ u, W.cell? (a.add (i * sz + j)) = some u ∧ Rep (oldF W) W ((c (xs.getD i d)).getD j .u) u := by
        intro i hi j hj
        have hxi : xs[i]? = some (xs.getD i d) := by rw [List.getD_eq_getElem?_getD, List.getElem?_eq_getElem (by omega)]; rfl
        obtain ⟨cs', k1, k2, k3⟩ := h3 i _ hxi
        have hcj : cs'[j]? = some (cs'[j]'(by omega)) := List.getElem?_eq_getElem (by omega)
        exact ⟨_, k3 j _ hcj, k2.get j _ hcj⟩
      obtain ⟨u0, hu0, _⟩ := hcell 0 hz 0 h0
      have ha0 : a.add (0 * sz + 0) = a := by simp [Addr.add]
      rw [ha0] at hu0
      refine ⟨a.block, a.off, by rw [← spot_none hu0], World.block_lt_of_cell? W a hu0, fun i hi j hj => ?_⟩
      rw [h1] at hi
      obtain ⟨u, k1, k2⟩ := hcell i hi j hj
      exact ⟨u, cell_add k1, k2⟩
theorem chg_below {w w' : World} (h : Chg (fun _ => False) w w') : Below w.heap.size w w' := ⟨h.os, h.tape, h.output, h.size, fun k hk => h.block k hk (fun h => h)⟩
theorem Spec.law {P : Program} {f : FuncId} {args : List FV} (h : Spec P f args (.p (.bool true)) []) {W : World} {vs : Array Value} (hv : RelVs ⟨oldF W, W, fun _ => undef, []⟩ args vs.toList) : Calls P f vs W fun e W' => e = .returned (.bool true) ∧ Below W.heap.size W W' := by
  refine (h W (oldF W) (fun _ => undef) vs (fun _ h => h) hv).mono fun e W' ⟨v, F', κ', he, hI, hr⟩ => ⟨?_, chg_below hI.chg⟩
  simp only [RelV, Rep] at hr
  rw [he, hr]
end Go.Proofs.YtjhnpaenhdbhpabV
