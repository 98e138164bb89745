/- Part of the proof of CacheForgets: printed by programs of this repo out of the translation, and by hand. Each theorem's conditions stand in its statement. -/
import Derived.Test.YtjhnpaenhdbhpabMCacheForgetsa
import Derived.Test.YtjhnpaenhdbhpabMCacheForgetsb
import Derived.Test.YtjhnpaenhdbhpabMCacheForgetsc
set_option linter.unusedVariables false
set_option linter.unusedSimpArgs false
set_option maxRecDepth 100000
namespace Go.Proofs.YtjhnpaenhdbhpabV
open Go Go.RowKit
noncomputable def erasureref06_merge.p1  : Nat → (List TEntry) → (List TEntry) → Int → Int → (List TEntry) → Option (List TEntry)
  | 0, _, _, _, _, _ => none
  | k + 1, a0, b1, i6, k7, out5 => if (decide (i6 < ((a0).length : Int))) = true then (if (i6 == ((a0).length : Int)) = true then (if (decide (1 < 0)) = true then (if 0 ≤ i6 ∧ i6 < ((a0).length : Int) then (if (out5).length + ([(a0.getD i6.toNat dEntry)]).length ≤ maxLen ∧ ((out5).length + ([(a0.getD i6.toNat dEntry)]).length) * 32 ≤ 140737488355328 then (erasureref06_merge.p1 k a0 b1 (IntKind.i64.wrap (i6 + 1)) k7 (out5 ++ ([(a0.getD i6.toNat dEntry)]))) else none) else none) else (if (decide (1 > 0)) = true then (if 0 ≤ k7 ∧ k7 < ((b1).length : Int) then (if (out5).length + ([(b1.getD k7.toNat dEntry)]).length ≤ maxLen ∧ ((out5).length + ([(b1.getD k7.toNat dEntry)]).length) * 32 ≤ 140737488355328 then (erasureref06_merge.p1 k a0 b1 i6 (IntKind.i64.wrap (k7 + 1)) (out5 ++ ([(b1.getD k7.toNat dEntry)]))) else none) else none) else (if 0 ≤ i6 ∧ i6 < ((a0).length : Int) then (if 0 ≤ k7 ∧ k7 < ((b1).length : Int) then (if ((IntKind.i64.wrap ((a0.getD i6.toNat dEntry).f1 + (b1.getD k7.toNat dEntry).f1)) != 0) = true then (if (out5).length + ([(TEntry.mk ((a0.getD i6.toNat dEntry).f0) (IntKind.i64.wrap ((a0.getD i6.toNat dEntry).f1 + (b1.getD k7.toNat dEntry).f1)))]).length ≤ maxLen ∧ ((out5).length + ([(TEntry.mk ((a0.getD i6.toNat dEntry).f0) (IntKind.i64.wrap ((a0.getD i6.toNat dEntry).f1 + (b1.getD k7.toNat dEntry).f1)))]).length) * 32 ≤ 140737488355328 then (erasureref06_merge.p1 k a0 b1 (IntKind.i64.wrap (i6 + 1)) (IntKind.i64.wrap (k7 + 1)) (out5 ++ ([(TEntry.mk ((a0.getD i6.toNat dEntry).f0) (IntKind.i64.wrap ((a0.getD i6.toNat dEntry).f1 + (b1.getD k7.toNat dEntry).f1)))]))) else none) else (erasureref06_merge.p1 k a0 b1 (IntKind.i64.wrap (i6 + 1)) (IntKind.i64.wrap (k7 + 1)) out5)) else none) else none))) else (if (k7 == ((b1).length : Int)) = true then (if (decide ((-1) < 0)) = true then (if 0 ≤ i6 ∧ i6 < ((a0).length : Int) then (if (out5).length + ([(a0.getD i6.toNat dEntry)]).length ≤ maxLen ∧ ((out5).length + ([(a0.getD i6.toNat dEntry)]).length) * 32 ≤ 140737488355328 then (erasureref06_merge.p1 k a0 b1 (IntKind.i64.wrap (i6 + 1)) k7 (out5 ++ ([(a0.getD i6.toNat dEntry)]))) else none) else none) else (if (decide ((-1) > 0)) = true then (if 0 ≤ k7 ∧ k7 < ((b1).length : Int) then (if (out5).length + ([(b1.getD k7.toNat dEntry)]).length ≤ maxLen ∧ ((out5).length + ([(b1.getD k7.toNat dEntry)]).length) * 32 ≤ 140737488355328 then (erasureref06_merge.p1 k a0 b1 i6 (IntKind.i64.wrap (k7 + 1)) (out5 ++ ([(b1.getD k7.toNat dEntry)]))) else none) else none) else (if 0 ≤ i6 ∧ i6 < ((a0).length : Int) then (if 0 ≤ k7 ∧ k7 < ((b1).length : Int) then (if ((IntKind.i64.wrap ((a0.getD i6.toNat dEntry).f1 + (b1.getD k7.toNat dEntry).f1)) != 0) = true then (if (out5).length + ([(TEntry.mk ((a0.getD i6.toNat dEntry).f0) (IntKind.i64.wrap ((a0.getD i6.toNat dEntry).f1 + (b1.getD k7.toNat dEntry).f1)))]).length ≤ maxLen ∧ ((out5).length + ([(TEntry.mk ((a0.getD i6.toNat dEntry).f0) (IntKind.i64.wrap ((a0.getD i6.toNat dEntry).f1 + (b1.getD k7.toNat dEntry).f1)))]).length) * 32 ≤ 140737488355328 then (erasureref06_merge.p1 k a0 b1 (IntKind.i64.wrap (i6 + 1)) (IntKind.i64.wrap (k7 + 1)) (out5 ++ ([(TEntry.mk ((a0.getD i6.toNat dEntry).f0) (IntKind.i64.wrap ((a0.getD i6.toNat dEntry).f1 + (b1.getD k7.toNat dEntry).f1)))]))) else none) else (erasureref06_merge.p1 k a0 b1 (IntKind.i64.wrap (i6 + 1)) (IntKind.i64.wrap (k7 + 1)) out5)) else none) else none))) else (if 0 ≤ i6 ∧ i6 < ((a0).length : Int) then (if 0 ≤ k7 ∧ k7 < ((b1).length : Int) then ((erasureref01_CompareRows k ((a0.getD i6.toNat dEntry).f0) ((b1.getD k7.toNat dEntry).f0)).bind fun y_26 => (if (decide (y_26 < 0)) = true then (if (out5).length + ([(a0.getD i6.toNat dEntry)]).length ≤ maxLen ∧ ((out5).length + ([(a0.getD i6.toNat dEntry)]).length) * 32 ≤ 140737488355328 then (erasureref06_merge.p1 k a0 b1 (IntKind.i64.wrap (i6 + 1)) k7 (out5 ++ ([(a0.getD i6.toNat dEntry)]))) else none) else (if (decide (y_26 > 0)) = true then (if (out5).length + ([(b1.getD k7.toNat dEntry)]).length ≤ maxLen ∧ ((out5).length + ([(b1.getD k7.toNat dEntry)]).length) * 32 ≤ 140737488355328 then (erasureref06_merge.p1 k a0 b1 i6 (IntKind.i64.wrap (k7 + 1)) (out5 ++ ([(b1.getD k7.toNat dEntry)]))) else none) else (if ((IntKind.i64.wrap ((a0.getD i6.toNat dEntry).f1 + (b1.getD k7.toNat dEntry).f1)) != 0) = true then (if (out5).length + ([(TEntry.mk ((a0.getD i6.toNat dEntry).f0) (IntKind.i64.wrap ((a0.getD i6.toNat dEntry).f1 + (b1.getD k7.toNat dEntry).f1)))]).length ≤ maxLen ∧ ((out5).length + ([(TEntry.mk ((a0.getD i6.toNat dEntry).f0) (IntKind.i64.wrap ((a0.getD i6.toNat dEntry).f1 + (b1.getD k7.toNat dEntry).f1)))]).length) * 32 ≤ 140737488355328 then (erasureref06_merge.p1 k a0 b1 (IntKind.i64.wrap (i6 + 1)) (IntKind.i64.wrap (k7 + 1)) (out5 ++ ([(TEntry.mk ((a0.getD i6.toNat dEntry).f0) (IntKind.i64.wrap ((a0.getD i6.toNat dEntry).f1 + (b1.getD k7.toNat dEntry).f1)))]))) else none) else (erasureref06_merge.p1 k a0 b1 (IntKind.i64.wrap (i6 + 1)) (IntKind.i64.wrap (k7 + 1)) out5))))) else none) else none))) else (if (decide (k7 < ((b1).length : Int))) = true then (if (i6 == ((a0).length : Int)) = true then (if (decide (1 < 0)) = true then (if 0 ≤ i6 ∧ i6 < ((a0).length : Int) then (if (out5).length + ([(a0.getD i6.toNat dEntry)]).length ≤ maxLen ∧ ((out5).length + ([(a0.getD i6.toNat dEntry)]).length) * 32 ≤ 140737488355328 then (erasureref06_merge.p1 k a0 b1 (IntKind.i64.wrap (i6 + 1)) k7 (out5 ++ ([(a0.getD i6.toNat dEntry)]))) else none) else none) else (if (decide (1 > 0)) = true then (if 0 ≤ k7 ∧ k7 < ((b1).length : Int) then (if (out5).length + ([(b1.getD k7.toNat dEntry)]).length ≤ maxLen ∧ ((out5).length + ([(b1.getD k7.toNat dEntry)]).length) * 32 ≤ 140737488355328 then (erasureref06_merge.p1 k a0 b1 i6 (IntKind.i64.wrap (k7 + 1)) (out5 ++ ([(b1.getD k7.toNat dEntry)]))) else none) else none) else (if 0 ≤ i6 ∧ i6 < ((a0).length : Int) then (if 0 ≤ k7 ∧ k7 < ((b1).length : Int) then (if ((IntKind.i64.wrap ((a0.getD i6.toNat dEntry).f1 + (b1.getD k7.toNat dEntry).f1)) != 0) = true then (if (out5).length + ([(TEntry.mk ((a0.getD i6.toNat dEntry).f0) (IntKind.i64.wrap ((a0.getD i6.toNat dEntry).f1 + (b1.getD k7.toNat dEntry).f1)))]).length ≤ maxLen ∧ ((out5).length + ([(TEntry.mk ((a0.getD i6.toNat dEntry).f0) (IntKind.i64.wrap ((a0.getD i6.toNat dEntry).f1 + (b1.getD k7.toNat dEntry).f1)))]).length) * 32 ≤ 140737488355328 then (erasureref06_merge.p1 k a0 b1 (IntKind.i64.wrap (i6 + 1)) (IntKind.i64.wrap (k7 + 1)) (out5 ++ ([(TEntry.mk ((a0.getD i6.toNat dEntry).f0) (IntKind.i64.wrap ((a0.getD i6.toNat dEntry).f1 + (b1.getD k7.toNat dEntry).f1)))]))) else none) else (erasureref06_merge.p1 k a0 b1 (IntKind.i64.wrap (i6 + 1)) (IntKind.i64.wrap (k7 + 1)) out5)) else none) else none))) else (if (k7 == ((b1).length : Int)) = true then (if (decide ((-1) < 0)) = true then (if 0 ≤ i6 ∧ i6 < ((a0).length : Int) then (if (out5).length + ([(a0.getD i6.toNat dEntry)]).length ≤ maxLen ∧ ((out5).length + ([(a0.getD i6.toNat dEntry)]).length) * 32 ≤ 140737488355328 then (erasureref06_merge.p1 k a0 b1 (IntKind.i64.wrap (i6 + 1)) k7 (out5 ++ ([(a0.getD i6.toNat dEntry)]))) else none) else none) else (if (decide ((-1) > 0)) = true then (if 0 ≤ k7 ∧ k7 < ((b1).length : Int) then (if (out5).length + ([(b1.getD k7.toNat dEntry)]).length ≤ maxLen ∧ ((out5).length + ([(b1.getD k7.toNat dEntry)]).length) * 32 ≤ 140737488355328 then (erasureref06_merge.p1 k a0 b1 i6 (IntKind.i64.wrap (k7 + 1)) (out5 ++ ([(b1.getD k7.toNat dEntry)]))) else none) else none) else (if 0 ≤ i6 ∧ i6 < ((a0).length : Int) then (if 0 ≤ k7 ∧ k7 < ((b1).length : Int) then (if ((IntKind.i64.wrap ((a0.getD i6.toNat dEntry).f1 + (b1.getD k7.toNat dEntry).f1)) != 0) = true then (if (out5).length + ([(TEntry.mk ((a0.getD i6.toNat dEntry).f0) (IntKind.i64.wrap ((a0.getD i6.toNat dEntry).f1 + (b1.getD k7.toNat dEntry).f1)))]).length ≤ maxLen ∧ ((out5).length + ([(TEntry.mk ((a0.getD i6.toNat dEntry).f0) (IntKind.i64.wrap ((a0.getD i6.toNat dEntry).f1 + (b1.getD k7.toNat dEntry).f1)))]).length) * 32 ≤ 140737488355328 then (erasureref06_merge.p1 k a0 b1 (IntKind.i64.wrap (i6 + 1)) (IntKind.i64.wrap (k7 + 1)) (out5 ++ ([(TEntry.mk ((a0.getD i6.toNat dEntry).f0) (IntKind.i64.wrap ((a0.getD i6.toNat dEntry).f1 + (b1.getD k7.toNat dEntry).f1)))]))) else none) else (erasureref06_merge.p1 k a0 b1 (IntKind.i64.wrap (i6 + 1)) (IntKind.i64.wrap (k7 + 1)) out5)) else none) else none))) else (if 0 ≤ i6 ∧ i6 < ((a0).length : Int) then (if 0 ≤ k7 ∧ k7 < ((b1).length : Int) then ((erasureref01_CompareRows k ((a0.getD i6.toNat dEntry).f0) ((b1.getD k7.toNat dEntry).f0)).bind fun y_59 => (if (decide (y_59 < 0)) = true then (if (out5).length + ([(a0.getD i6.toNat dEntry)]).length ≤ maxLen ∧ ((out5).length + ([(a0.getD i6.toNat dEntry)]).length) * 32 ≤ 140737488355328 then (erasureref06_merge.p1 k a0 b1 (IntKind.i64.wrap (i6 + 1)) k7 (out5 ++ ([(a0.getD i6.toNat dEntry)]))) else none) else (if (decide (y_59 > 0)) = true then (if (out5).length + ([(b1.getD k7.toNat dEntry)]).length ≤ maxLen ∧ ((out5).length + ([(b1.getD k7.toNat dEntry)]).length) * 32 ≤ 140737488355328 then (erasureref06_merge.p1 k a0 b1 i6 (IntKind.i64.wrap (k7 + 1)) (out5 ++ ([(b1.getD k7.toNat dEntry)]))) else none) else (if ((IntKind.i64.wrap ((a0.getD i6.toNat dEntry).f1 + (b1.getD k7.toNat dEntry).f1)) != 0) = true then (if (out5).length + ([(TEntry.mk ((a0.getD i6.toNat dEntry).f0) (IntKind.i64.wrap ((a0.getD i6.toNat dEntry).f1 + (b1.getD k7.toNat dEntry).f1)))]).length ≤ maxLen ∧ ((out5).length + ([(TEntry.mk ((a0.getD i6.toNat dEntry).f0) (IntKind.i64.wrap ((a0.getD i6.toNat dEntry).f1 + (b1.getD k7.toNat dEntry).f1)))]).length) * 32 ≤ 140737488355328 then (erasureref06_merge.p1 k a0 b1 (IntKind.i64.wrap (i6 + 1)) (IntKind.i64.wrap (k7 + 1)) (out5 ++ ([(TEntry.mk ((a0.getD i6.toNat dEntry).f0) (IntKind.i64.wrap ((a0.getD i6.toNat dEntry).f1 + (b1.getD k7.toNat dEntry).f1)))]))) else none) else (erasureref06_merge.p1 k a0 b1 (IntKind.i64.wrap (i6 + 1)) (IntKind.i64.wrap (k7 + 1)) out5))))) else none) else none))) else (some out5))
noncomputable def erasureref06_merge  (k : Nat) (a0 : (List TEntry)) (b1 : (List TEntry)) : Option (List TEntry) := erasureref06_merge.p1 k a0 b1 0 0 ([] : List TEntry)
noncomputable def erasureref06_merge.t : List Item := [.code (bodyOf Try.f69)]
noncomputable def erasureref06_merge.s (a0 : (List TEntry)) (b1 : (List TEntry)) : St := ⟨frOf Try.f69.ntmps 0 [(0, .p (eL 2 cEntry dEntry a0)), (1, .p (eL 2 cEntry dEntry b1))], []⟩
noncomputable def erasureref06_merge.p1.t : List Item := nav 9 [] erasureref06_merge.t
noncomputable def erasureref06_merge.p1.s (a0 : (List TEntry)) (b1 : (List TEntry)) (i6 : Int) (k7 : Int) (out5 : (List TEntry)) : St := ⟨frOf Try.f69.ntmps 0 [(0, .p (eL 2 cEntry dEntry a0)), (1, .p (eL 2 cEntry dEntry b1)), (5, .sref 0 36 2 (out5).length), (6, .p (.int .i64 i6)), (7, .p (.int .i64 k7))], [(oL true 36 2 cEntry dEntry out5)]⟩
theorem erasureref06_merge.p1.run   : ∀ (k : Nat) (a0 : (List TEntry)) (b1 : (List TEntry)) (i6 : Int) (k7 : Int) (out5 : (List TEntry)) (r : (List TEntry)), erasureref06_merge.p1 k a0 b1 i6 k7 out5 = some r → RunC Try.prog Try.f69 erasureref06_merge.p1.t (erasureref06_merge.p1.s a0 b1 i6 k7 out5) (.sref 0 36 2 (r).length) [(oL true 36 2 cEntry dEntry (r))] := by
  intro k
  induction k with
  | zero => intro a0 b1 i6 k7 out5 r h; simp [erasureref06_merge.p1] at h
  | succ k ih =>
    intro a0 b1 i6 k7 out5 r h
    rw [erasureref06_merge.p1] at h
    rcases ite_or h with ⟨g_1, h⟩ | ⟨g_1, h⟩
    · rcases ite_or h with ⟨g_2, h⟩ | ⟨g_2, h⟩
      · rcases ite_or h with ⟨g_3, h⟩ | ⟨g_3, h⟩
        · obtain ⟨g_4, h⟩ := ite_some h
          obtain ⟨g_5, h⟩ := ite_some h
          exact RunC.go [.n 2, .r [(4, .dec true)], .n 8, .r [(4, .dec true)], .n 5, .r [(2, .dec true)], .n 2, .r [(5, .obj (oL true 36 2 cEntry dEntry [(a0.getD i6.toNat dEntry)])), (6, .obj (oL true 36 2 cEntry dEntry (out5 ++ ([(a0.getD i6.toNat dEntry)]))))], .n 4, .k [0, 1, 5, 6, 7]] (by kernel_rfl) (Obs.of (by kernel_rfl) (And.intro g_1 (And.intro g_2 (And.intro g_3 (And.intro g_4 (And.intro (le_one 36 2 cEntry dEntry (a0.getD i6.toNat dEntry)) (And.intro g_5 (le_app 36 2 cEntry dEntry out5 ([(a0.getD i6.toNat dEntry)]))))))))) (ih _ _ _ _ _ r h)
        · rcases ite_or h with ⟨g_6, h⟩ | ⟨g_6, h⟩
          · obtain ⟨g_7, h⟩ := ite_some h
            obtain ⟨g_8, h⟩ := ite_some h
            exact RunC.go [.n 2, .r [(4, .dec true)], .n 8, .r [(4, .dec true)], .n 5, .r [(2, .dec false)], .n 2, .r [(2, .dec true)], .n 2, .r [(5, .obj (oL true 36 2 cEntry dEntry [(b1.getD k7.toNat dEntry)])), (6, .obj (oL true 36 2 cEntry dEntry (out5 ++ ([(b1.getD k7.toNat dEntry)]))))], .n 4, .k [0, 1, 5, 6, 7]] (by kernel_rfl) (Obs.of (by kernel_rfl) (And.intro g_1 (And.intro g_2 (And.intro (nt g_3) (And.intro g_6 (And.intro g_7 (And.intro (le_one 36 2 cEntry dEntry (b1.getD k7.toNat dEntry)) (And.intro g_8 (le_app 36 2 cEntry dEntry out5 ([(b1.getD k7.toNat dEntry)])))))))))) (ih _ _ _ _ _ r h)
          · obtain ⟨g_9, h⟩ := ite_some h
            obtain ⟨g_10, h⟩ := ite_some h
            rcases ite_or h with ⟨g_11, h⟩ | ⟨g_11, h⟩
            · obtain ⟨g_12, h⟩ := ite_some h
              exact RunC.go [.n 2, .r [(4, .dec true)], .n 8, .r [(4, .dec true)], .n 5, .r [(2, .dec false)], .n 2, .r [(2, .dec false)], .n 5, .r [(1, .dec true)], .n 1, .r [(8, .obj (oL true 36 2 cEntry dEntry [(TEntry.mk ((a0.getD i6.toNat dEntry).f0) (IntKind.i64.wrap ((a0.getD i6.toNat dEntry).f1 + (b1.getD k7.toNat dEntry).f1)))])), (9, .obj (oL true 36 2 cEntry dEntry (out5 ++ ([(TEntry.mk ((a0.getD i6.toNat dEntry).f0) (IntKind.i64.wrap ((a0.getD i6.toNat dEntry).f1 + (b1.getD k7.toNat dEntry).f1)))]))))], .n 6, .k [0, 1, 5, 6, 7]] (by kernel_rfl) (Obs.of (by kernel_rfl) (And.intro g_1 (And.intro g_2 (And.intro (nt g_3) (And.intro (nt g_6) (And.intro g_9 (And.intro g_10 (And.intro g_11 (And.intro g_9 (And.intro (le_one 36 2 cEntry dEntry (TEntry.mk ((a0.getD i6.toNat dEntry).f0) (IntKind.i64.wrap ((a0.getD i6.toNat dEntry).f1 + (b1.getD k7.toNat dEntry).f1)))) (And.intro g_12 (le_app 36 2 cEntry dEntry out5 ([(TEntry.mk ((a0.getD i6.toNat dEntry).f0) (IntKind.i64.wrap ((a0.getD i6.toNat dEntry).f1 + (b1.getD k7.toNat dEntry).f1)))]))))))))))))) (ih _ _ _ _ _ r h)
            · exact RunC.go [.n 2, .r [(4, .dec true)], .n 8, .r [(4, .dec true)], .n 5, .r [(2, .dec false)], .n 2, .r [(2, .dec false)], .n 5, .r [(1, .dec false)], .n 8, .k [0, 1, 5, 6, 7]] (by kernel_rfl) (Obs.of (by kernel_rfl) (And.intro g_1 (And.intro g_2 (And.intro (nt g_3) (And.intro (nt g_6) (And.intro g_9 (And.intro g_10 (nt g_11)))))))) (ih _ _ _ _ _ r h)
      · rcases ite_or h with ⟨g_13, h⟩ | ⟨g_13, h⟩
        · rcases ite_or h with ⟨g_14, h⟩ | ⟨g_14, h⟩
          · obtain ⟨g_15, h⟩ := ite_some h
            obtain ⟨g_16, h⟩ := ite_some h
            exact RunC.go [.n 2, .r [(4, .dec true)], .n 8, .r [(4, .dec false)], .n 2, .r [(4, .dec true)], .n 5, .r [(2, .dec true)], .n 2, .r [(5, .obj (oL true 36 2 cEntry dEntry [(a0.getD i6.toNat dEntry)])), (6, .obj (oL true 36 2 cEntry dEntry (out5 ++ ([(a0.getD i6.toNat dEntry)]))))], .n 4, .k [0, 1, 5, 6, 7]] (by kernel_rfl) (Obs.of (by kernel_rfl) (And.intro g_1 (And.intro (nt g_2) (And.intro g_13 (And.intro g_14 (And.intro g_15 (And.intro (le_one 36 2 cEntry dEntry (a0.getD i6.toNat dEntry)) (And.intro g_16 (le_app 36 2 cEntry dEntry out5 ([(a0.getD i6.toNat dEntry)])))))))))) (ih _ _ _ _ _ r h)
          · rcases ite_or h with ⟨g_17, h⟩ | ⟨g_17, h⟩
            · obtain ⟨g_18, h⟩ := ite_some h
              obtain ⟨g_19, h⟩ := ite_some h
              exact RunC.go [.n 2, .r [(4, .dec true)], .n 8, .r [(4, .dec false)], .n 2, .r [(4, .dec true)], .n 5, .r [(2, .dec false)], .n 2, .r [(2, .dec true)], .n 2, .r [(5, .obj (oL true 36 2 cEntry dEntry [(b1.getD k7.toNat dEntry)])), (6, .obj (oL true 36 2 cEntry dEntry (out5 ++ ([(b1.getD k7.toNat dEntry)]))))], .n 4, .k [0, 1, 5, 6, 7]] (by kernel_rfl) (Obs.of (by kernel_rfl) (And.intro g_1 (And.intro (nt g_2) (And.intro g_13 (And.intro (nt g_14) (And.intro g_17 (And.intro g_18 (And.intro (le_one 36 2 cEntry dEntry (b1.getD k7.toNat dEntry)) (And.intro g_19 (le_app 36 2 cEntry dEntry out5 ([(b1.getD k7.toNat dEntry)]))))))))))) (ih _ _ _ _ _ r h)
            · obtain ⟨g_20, h⟩ := ite_some h
              obtain ⟨g_21, h⟩ := ite_some h
              rcases ite_or h with ⟨g_22, h⟩ | ⟨g_22, h⟩
              · obtain ⟨g_23, h⟩ := ite_some h
                exact RunC.go [.n 2, .r [(4, .dec true)], .n 8, .r [(4, .dec false)], .n 2, .r [(4, .dec true)], .n 5, .r [(2, .dec false)], .n 2, .r [(2, .dec false)], .n 5, .r [(1, .dec true)], .n 1, .r [(8, .obj (oL true 36 2 cEntry dEntry [(TEntry.mk ((a0.getD i6.toNat dEntry).f0) (IntKind.i64.wrap ((a0.getD i6.toNat dEntry).f1 + (b1.getD k7.toNat dEntry).f1)))])), (9, .obj (oL true 36 2 cEntry dEntry (out5 ++ ([(TEntry.mk ((a0.getD i6.toNat dEntry).f0) (IntKind.i64.wrap ((a0.getD i6.toNat dEntry).f1 + (b1.getD k7.toNat dEntry).f1)))]))))], .n 6, .k [0, 1, 5, 6, 7]] (by kernel_rfl) (Obs.of (by kernel_rfl) (And.intro g_1 (And.intro (nt g_2) (And.intro g_13 (And.intro (nt g_14) (And.intro (nt g_17) (And.intro g_20 (And.intro g_21 (And.intro g_22 (And.intro g_20 (And.intro (le_one 36 2 cEntry dEntry (TEntry.mk ((a0.getD i6.toNat dEntry).f0) (IntKind.i64.wrap ((a0.getD i6.toNat dEntry).f1 + (b1.getD k7.toNat dEntry).f1)))) (And.intro g_23 (le_app 36 2 cEntry dEntry out5 ([(TEntry.mk ((a0.getD i6.toNat dEntry).f0) (IntKind.i64.wrap ((a0.getD i6.toNat dEntry).f1 + (b1.getD k7.toNat dEntry).f1)))])))))))))))))) (ih _ _ _ _ _ r h)
              · exact RunC.go [.n 2, .r [(4, .dec true)], .n 8, .r [(4, .dec false)], .n 2, .r [(4, .dec true)], .n 5, .r [(2, .dec false)], .n 2, .r [(2, .dec false)], .n 5, .r [(1, .dec false)], .n 8, .k [0, 1, 5, 6, 7]] (by kernel_rfl) (Obs.of (by kernel_rfl) (And.intro g_1 (And.intro (nt g_2) (And.intro g_13 (And.intro (nt g_14) (And.intro (nt g_17) (And.intro g_20 (And.intro g_21 (nt g_22))))))))) (ih _ _ _ _ _ r h)
        · obtain ⟨g_24, h⟩ := ite_some h
          obtain ⟨g_25, h⟩ := ite_some h
          obtain ⟨y_26, e_27, h⟩ := bind_or h
          rcases ite_or h with ⟨g_28, h⟩ | ⟨g_28, h⟩
          · obtain ⟨g_29, h⟩ := ite_some h
            exact RunC.go [.n 2, .r [(4, .dec true)], .n 8, .r [(4, .dec false)], .n 2, .r [(4, .dec false)], .n 1, .r [(10, .call (.p (.int .i64 y_26)) [])], .n 3, .r [(2, .dec true)], .n 2, .r [(5, .obj (oL true 36 2 cEntry dEntry [(a0.getD i6.toNat dEntry)])), (6, .obj (oL true 36 2 cEntry dEntry (out5 ++ ([(a0.getD i6.toNat dEntry)]))))], .n 4, .k [0, 1, 5, 6, 7]] (by kernel_rfl) (Obs.of (by kernel_rfl) (And.intro g_1 (And.intro (nt g_2) (And.intro (nt g_13) (And.intro g_24 (And.intro g_25 (And.intro (erasureref01_CompareRows.spec e_27) (And.intro g_28 (And.intro g_24 (And.intro (le_one 36 2 cEntry dEntry (a0.getD i6.toNat dEntry)) (And.intro g_29 (le_app 36 2 cEntry dEntry out5 ([(a0.getD i6.toNat dEntry)]))))))))))))) (ih _ _ _ _ _ r h)
          · rcases ite_or h with ⟨g_30, h⟩ | ⟨g_30, h⟩
            · obtain ⟨g_31, h⟩ := ite_some h
              exact RunC.go [.n 2, .r [(4, .dec true)], .n 8, .r [(4, .dec false)], .n 2, .r [(4, .dec false)], .n 1, .r [(10, .call (.p (.int .i64 y_26)) [])], .n 3, .r [(2, .dec false)], .n 2, .r [(2, .dec true)], .n 2, .r [(5, .obj (oL true 36 2 cEntry dEntry [(b1.getD k7.toNat dEntry)])), (6, .obj (oL true 36 2 cEntry dEntry (out5 ++ ([(b1.getD k7.toNat dEntry)]))))], .n 4, .k [0, 1, 5, 6, 7]] (by kernel_rfl) (Obs.of (by kernel_rfl) (And.intro g_1 (And.intro (nt g_2) (And.intro (nt g_13) (And.intro g_24 (And.intro g_25 (And.intro (erasureref01_CompareRows.spec e_27) (And.intro (nt g_28) (And.intro g_30 (And.intro g_25 (And.intro (le_one 36 2 cEntry dEntry (b1.getD k7.toNat dEntry)) (And.intro g_31 (le_app 36 2 cEntry dEntry out5 ([(b1.getD k7.toNat dEntry)])))))))))))))) (ih _ _ _ _ _ r h)
            · rcases ite_or h with ⟨g_32, h⟩ | ⟨g_32, h⟩
              · obtain ⟨g_33, h⟩ := ite_some h
                exact RunC.go [.n 2, .r [(4, .dec true)], .n 8, .r [(4, .dec false)], .n 2, .r [(4, .dec false)], .n 1, .r [(10, .call (.p (.int .i64 y_26)) [])], .n 3, .r [(2, .dec false)], .n 2, .r [(2, .dec false)], .n 5, .r [(1, .dec true)], .n 1, .r [(8, .obj (oL true 36 2 cEntry dEntry [(TEntry.mk ((a0.getD i6.toNat dEntry).f0) (IntKind.i64.wrap ((a0.getD i6.toNat dEntry).f1 + (b1.getD k7.toNat dEntry).f1)))])), (9, .obj (oL true 36 2 cEntry dEntry (out5 ++ ([(TEntry.mk ((a0.getD i6.toNat dEntry).f0) (IntKind.i64.wrap ((a0.getD i6.toNat dEntry).f1 + (b1.getD k7.toNat dEntry).f1)))]))))], .n 6, .k [0, 1, 5, 6, 7]] (by kernel_rfl) (Obs.of (by kernel_rfl) (And.intro g_1 (And.intro (nt g_2) (And.intro (nt g_13) (And.intro g_24 (And.intro g_25 (And.intro (erasureref01_CompareRows.spec e_27) (And.intro (nt g_28) (And.intro (nt g_30) (And.intro g_24 (And.intro g_25 (And.intro g_32 (And.intro g_24 (And.intro (le_one 36 2 cEntry dEntry (TEntry.mk ((a0.getD i6.toNat dEntry).f0) (IntKind.i64.wrap ((a0.getD i6.toNat dEntry).f1 + (b1.getD k7.toNat dEntry).f1)))) (And.intro g_33 (le_app 36 2 cEntry dEntry out5 ([(TEntry.mk ((a0.getD i6.toNat dEntry).f0) (IntKind.i64.wrap ((a0.getD i6.toNat dEntry).f1 + (b1.getD k7.toNat dEntry).f1)))]))))))))))))))))) (ih _ _ _ _ _ r h)
              · exact RunC.go [.n 2, .r [(4, .dec true)], .n 8, .r [(4, .dec false)], .n 2, .r [(4, .dec false)], .n 1, .r [(10, .call (.p (.int .i64 y_26)) [])], .n 3, .r [(2, .dec false)], .n 2, .r [(2, .dec false)], .n 5, .r [(1, .dec false)], .n 8, .k [0, 1, 5, 6, 7]] (by kernel_rfl) (Obs.of (by kernel_rfl) (And.intro g_1 (And.intro (nt g_2) (And.intro (nt g_13) (And.intro g_24 (And.intro g_25 (And.intro (erasureref01_CompareRows.spec e_27) (And.intro (nt g_28) (And.intro (nt g_30) (And.intro g_24 (And.intro g_25 (nt g_32)))))))))))) (ih _ _ _ _ _ r h)
    · rcases ite_or h with ⟨g_34, h⟩ | ⟨g_34, h⟩
      · rcases ite_or h with ⟨g_35, h⟩ | ⟨g_35, h⟩
        · rcases ite_or h with ⟨g_36, h⟩ | ⟨g_36, h⟩
          · obtain ⟨g_37, h⟩ := ite_some h
            obtain ⟨g_38, h⟩ := ite_some h
            exact RunC.go [.n 2, .r [(4, .dec false), (9, .dec true)], .n 8, .r [(4, .dec true)], .n 5, .r [(2, .dec true)], .n 2, .r [(5, .obj (oL true 36 2 cEntry dEntry [(a0.getD i6.toNat dEntry)])), (6, .obj (oL true 36 2 cEntry dEntry (out5 ++ ([(a0.getD i6.toNat dEntry)]))))], .n 4, .k [0, 1, 5, 6, 7]] (by kernel_rfl) (Obs.of (by kernel_rfl) (And.intro (nt g_1) (And.intro g_34 (And.intro g_35 (And.intro g_36 (And.intro g_37 (And.intro (le_one 36 2 cEntry dEntry (a0.getD i6.toNat dEntry)) (And.intro g_38 (le_app 36 2 cEntry dEntry out5 ([(a0.getD i6.toNat dEntry)])))))))))) (ih _ _ _ _ _ r h)
          · rcases ite_or h with ⟨g_39, h⟩ | ⟨g_39, h⟩
            · obtain ⟨g_40, h⟩ := ite_some h
              obtain ⟨g_41, h⟩ := ite_some h
              exact RunC.go [.n 2, .r [(4, .dec false), (9, .dec true)], .n 8, .r [(4, .dec true)], .n 5, .r [(2, .dec false)], .n 2, .r [(2, .dec true)], .n 2, .r [(5, .obj (oL true 36 2 cEntry dEntry [(b1.getD k7.toNat dEntry)])), (6, .obj (oL true 36 2 cEntry dEntry (out5 ++ ([(b1.getD k7.toNat dEntry)]))))], .n 4, .k [0, 1, 5, 6, 7]] (by kernel_rfl) (Obs.of (by kernel_rfl) (And.intro (nt g_1) (And.intro g_34 (And.intro g_35 (And.intro (nt g_36) (And.intro g_39 (And.intro g_40 (And.intro (le_one 36 2 cEntry dEntry (b1.getD k7.toNat dEntry)) (And.intro g_41 (le_app 36 2 cEntry dEntry out5 ([(b1.getD k7.toNat dEntry)]))))))))))) (ih _ _ _ _ _ r h)
            · obtain ⟨g_42, h⟩ := ite_some h
              obtain ⟨g_43, h⟩ := ite_some h
              rcases ite_or h with ⟨g_44, h⟩ | ⟨g_44, h⟩
              · obtain ⟨g_45, h⟩ := ite_some h
                exact RunC.go [.n 2, .r [(4, .dec false), (9, .dec true)], .n 8, .r [(4, .dec true)], .n 5, .r [(2, .dec false)], .n 2, .r [(2, .dec false)], .n 5, .r [(1, .dec true)], .n 1, .r [(8, .obj (oL true 36 2 cEntry dEntry [(TEntry.mk ((a0.getD i6.toNat dEntry).f0) (IntKind.i64.wrap ((a0.getD i6.toNat dEntry).f1 + (b1.getD k7.toNat dEntry).f1)))])), (9, .obj (oL true 36 2 cEntry dEntry (out5 ++ ([(TEntry.mk ((a0.getD i6.toNat dEntry).f0) (IntKind.i64.wrap ((a0.getD i6.toNat dEntry).f1 + (b1.getD k7.toNat dEntry).f1)))]))))], .n 6, .k [0, 1, 5, 6, 7]] (by kernel_rfl) (Obs.of (by kernel_rfl) (And.intro (nt g_1) (And.intro g_34 (And.intro g_35 (And.intro (nt g_36) (And.intro (nt g_39) (And.intro g_42 (And.intro g_43 (And.intro g_44 (And.intro g_42 (And.intro (le_one 36 2 cEntry dEntry (TEntry.mk ((a0.getD i6.toNat dEntry).f0) (IntKind.i64.wrap ((a0.getD i6.toNat dEntry).f1 + (b1.getD k7.toNat dEntry).f1)))) (And.intro g_45 (le_app 36 2 cEntry dEntry out5 ([(TEntry.mk ((a0.getD i6.toNat dEntry).f0) (IntKind.i64.wrap ((a0.getD i6.toNat dEntry).f1 + (b1.getD k7.toNat dEntry).f1)))])))))))))))))) (ih _ _ _ _ _ r h)
              · exact RunC.go [.n 2, .r [(4, .dec false), (9, .dec true)], .n 8, .r [(4, .dec true)], .n 5, .r [(2, .dec false)], .n 2, .r [(2, .dec false)], .n 5, .r [(1, .dec false)], .n 8, .k [0, 1, 5, 6, 7]] (by kernel_rfl) (Obs.of (by kernel_rfl) (And.intro (nt g_1) (And.intro g_34 (And.intro g_35 (And.intro (nt g_36) (And.intro (nt g_39) (And.intro g_42 (And.intro g_43 (nt g_44))))))))) (ih _ _ _ _ _ r h)
        · rcases ite_or h with ⟨g_46, h⟩ | ⟨g_46, h⟩
          · rcases ite_or h with ⟨g_47, h⟩ | ⟨g_47, h⟩
            · obtain ⟨g_48, h⟩ := ite_some h
              obtain ⟨g_49, h⟩ := ite_some h
              exact RunC.go [.n 2, .r [(4, .dec false), (9, .dec true)], .n 8, .r [(4, .dec false)], .n 2, .r [(4, .dec true)], .n 5, .r [(2, .dec true)], .n 2, .r [(5, .obj (oL true 36 2 cEntry dEntry [(a0.getD i6.toNat dEntry)])), (6, .obj (oL true 36 2 cEntry dEntry (out5 ++ ([(a0.getD i6.toNat dEntry)]))))], .n 4, .k [0, 1, 5, 6, 7]] (by kernel_rfl) (Obs.of (by kernel_rfl) (And.intro (nt g_1) (And.intro g_34 (And.intro (nt g_35) (And.intro g_46 (And.intro g_47 (And.intro g_48 (And.intro (le_one 36 2 cEntry dEntry (a0.getD i6.toNat dEntry)) (And.intro g_49 (le_app 36 2 cEntry dEntry out5 ([(a0.getD i6.toNat dEntry)]))))))))))) (ih _ _ _ _ _ r h)
            · rcases ite_or h with ⟨g_50, h⟩ | ⟨g_50, h⟩
              · obtain ⟨g_51, h⟩ := ite_some h
                obtain ⟨g_52, h⟩ := ite_some h
                exact RunC.go [.n 2, .r [(4, .dec false), (9, .dec true)], .n 8, .r [(4, .dec false)], .n 2, .r [(4, .dec true)], .n 5, .r [(2, .dec false)], .n 2, .r [(2, .dec true)], .n 2, .r [(5, .obj (oL true 36 2 cEntry dEntry [(b1.getD k7.toNat dEntry)])), (6, .obj (oL true 36 2 cEntry dEntry (out5 ++ ([(b1.getD k7.toNat dEntry)]))))], .n 4, .k [0, 1, 5, 6, 7]] (by kernel_rfl) (Obs.of (by kernel_rfl) (And.intro (nt g_1) (And.intro g_34 (And.intro (nt g_35) (And.intro g_46 (And.intro (nt g_47) (And.intro g_50 (And.intro g_51 (And.intro (le_one 36 2 cEntry dEntry (b1.getD k7.toNat dEntry)) (And.intro g_52 (le_app 36 2 cEntry dEntry out5 ([(b1.getD k7.toNat dEntry)])))))))))))) (ih _ _ _ _ _ r h)
              · obtain ⟨g_53, h⟩ := ite_some h
                obtain ⟨g_54, h⟩ := ite_some h
                rcases ite_or h with ⟨g_55, h⟩ | ⟨g_55, h⟩
                · obtain ⟨g_56, h⟩ := ite_some h
                  exact RunC.go [.n 2, .r [(4, .dec false), (9, .dec true)], .n 8, .r [(4, .dec false)], .n 2, .r [(4, .dec true)], .n 5, .r [(2, .dec false)], .n 2, .r [(2, .dec false)], .n 5, .r [(1, .dec true)], .n 1, .r [(8, .obj (oL true 36 2 cEntry dEntry [(TEntry.mk ((a0.getD i6.toNat dEntry).f0) (IntKind.i64.wrap ((a0.getD i6.toNat dEntry).f1 + (b1.getD k7.toNat dEntry).f1)))])), (9, .obj (oL true 36 2 cEntry dEntry (out5 ++ ([(TEntry.mk ((a0.getD i6.toNat dEntry).f0) (IntKind.i64.wrap ((a0.getD i6.toNat dEntry).f1 + (b1.getD k7.toNat dEntry).f1)))]))))], .n 6, .k [0, 1, 5, 6, 7]] (by kernel_rfl) (Obs.of (by kernel_rfl) (And.intro (nt g_1) (And.intro g_34 (And.intro (nt g_35) (And.intro g_46 (And.intro (nt g_47) (And.intro (nt g_50) (And.intro g_53 (And.intro g_54 (And.intro g_55 (And.intro g_53 (And.intro (le_one 36 2 cEntry dEntry (TEntry.mk ((a0.getD i6.toNat dEntry).f0) (IntKind.i64.wrap ((a0.getD i6.toNat dEntry).f1 + (b1.getD k7.toNat dEntry).f1)))) (And.intro g_56 (le_app 36 2 cEntry dEntry out5 ([(TEntry.mk ((a0.getD i6.toNat dEntry).f0) (IntKind.i64.wrap ((a0.getD i6.toNat dEntry).f1 + (b1.getD k7.toNat dEntry).f1)))]))))))))))))))) (ih _ _ _ _ _ r h)
                · exact RunC.go [.n 2, .r [(4, .dec false), (9, .dec true)], .n 8, .r [(4, .dec false)], .n 2, .r [(4, .dec true)], .n 5, .r [(2, .dec false)], .n 2, .r [(2, .dec false)], .n 5, .r [(1, .dec false)], .n 8, .k [0, 1, 5, 6, 7]] (by kernel_rfl) (Obs.of (by kernel_rfl) (And.intro (nt g_1) (And.intro g_34 (And.intro (nt g_35) (And.intro g_46 (And.intro (nt g_47) (And.intro (nt g_50) (And.intro g_53 (And.intro g_54 (nt g_55)))))))))) (ih _ _ _ _ _ r h)
          · obtain ⟨g_57, h⟩ := ite_some h
            obtain ⟨g_58, h⟩ := ite_some h
            obtain ⟨y_59, e_60, h⟩ := bind_or h
            rcases ite_or h with ⟨g_61, h⟩ | ⟨g_61, h⟩
            · obtain ⟨g_62, h⟩ := ite_some h
              exact RunC.go [.n 2, .r [(4, .dec false), (9, .dec true)], .n 8, .r [(4, .dec false)], .n 2, .r [(4, .dec false)], .n 1, .r [(10, .call (.p (.int .i64 y_59)) [])], .n 3, .r [(2, .dec true)], .n 2, .r [(5, .obj (oL true 36 2 cEntry dEntry [(a0.getD i6.toNat dEntry)])), (6, .obj (oL true 36 2 cEntry dEntry (out5 ++ ([(a0.getD i6.toNat dEntry)]))))], .n 4, .k [0, 1, 5, 6, 7]] (by kernel_rfl) (Obs.of (by kernel_rfl) (And.intro (nt g_1) (And.intro g_34 (And.intro (nt g_35) (And.intro (nt g_46) (And.intro g_57 (And.intro g_58 (And.intro (erasureref01_CompareRows.spec e_60) (And.intro g_61 (And.intro g_57 (And.intro (le_one 36 2 cEntry dEntry (a0.getD i6.toNat dEntry)) (And.intro g_62 (le_app 36 2 cEntry dEntry out5 ([(a0.getD i6.toNat dEntry)])))))))))))))) (ih _ _ _ _ _ r h)
            · rcases ite_or h with ⟨g_63, h⟩ | ⟨g_63, h⟩
              · obtain ⟨g_64, h⟩ := ite_some h
                exact RunC.go [.n 2, .r [(4, .dec false), (9, .dec true)], .n 8, .r [(4, .dec false)], .n 2, .r [(4, .dec false)], .n 1, .r [(10, .call (.p (.int .i64 y_59)) [])], .n 3, .r [(2, .dec false)], .n 2, .r [(2, .dec true)], .n 2, .r [(5, .obj (oL true 36 2 cEntry dEntry [(b1.getD k7.toNat dEntry)])), (6, .obj (oL true 36 2 cEntry dEntry (out5 ++ ([(b1.getD k7.toNat dEntry)]))))], .n 4, .k [0, 1, 5, 6, 7]] (by kernel_rfl) (Obs.of (by kernel_rfl) (And.intro (nt g_1) (And.intro g_34 (And.intro (nt g_35) (And.intro (nt g_46) (And.intro g_57 (And.intro g_58 (And.intro (erasureref01_CompareRows.spec e_60) (And.intro (nt g_61) (And.intro g_63 (And.intro g_58 (And.intro (le_one 36 2 cEntry dEntry (b1.getD k7.toNat dEntry)) (And.intro g_64 (le_app 36 2 cEntry dEntry out5 ([(b1.getD k7.toNat dEntry)]))))))))))))))) (ih _ _ _ _ _ r h)
              · rcases ite_or h with ⟨g_65, h⟩ | ⟨g_65, h⟩
                · obtain ⟨g_66, h⟩ := ite_some h
                  exact RunC.go [.n 2, .r [(4, .dec false), (9, .dec true)], .n 8, .r [(4, .dec false)], .n 2, .r [(4, .dec false)], .n 1, .r [(10, .call (.p (.int .i64 y_59)) [])], .n 3, .r [(2, .dec false)], .n 2, .r [(2, .dec false)], .n 5, .r [(1, .dec true)], .n 1, .r [(8, .obj (oL true 36 2 cEntry dEntry [(TEntry.mk ((a0.getD i6.toNat dEntry).f0) (IntKind.i64.wrap ((a0.getD i6.toNat dEntry).f1 + (b1.getD k7.toNat dEntry).f1)))])), (9, .obj (oL true 36 2 cEntry dEntry (out5 ++ ([(TEntry.mk ((a0.getD i6.toNat dEntry).f0) (IntKind.i64.wrap ((a0.getD i6.toNat dEntry).f1 + (b1.getD k7.toNat dEntry).f1)))]))))], .n 6, .k [0, 1, 5, 6, 7]] (by kernel_rfl) (Obs.of (by kernel_rfl) (And.intro (nt g_1) (And.intro g_34 (And.intro (nt g_35) (And.intro (nt g_46) (And.intro g_57 (And.intro g_58 (And.intro (erasureref01_CompareRows.spec e_60) (And.intro (nt g_61) (And.intro (nt g_63) (And.intro g_57 (And.intro g_58 (And.intro g_65 (And.intro g_57 (And.intro (le_one 36 2 cEntry dEntry (TEntry.mk ((a0.getD i6.toNat dEntry).f0) (IntKind.i64.wrap ((a0.getD i6.toNat dEntry).f1 + (b1.getD k7.toNat dEntry).f1)))) (And.intro g_66 (le_app 36 2 cEntry dEntry out5 ([(TEntry.mk ((a0.getD i6.toNat dEntry).f0) (IntKind.i64.wrap ((a0.getD i6.toNat dEntry).f1 + (b1.getD k7.toNat dEntry).f1)))])))))))))))))))))) (ih _ _ _ _ _ r h)
                · exact RunC.go [.n 2, .r [(4, .dec false), (9, .dec true)], .n 8, .r [(4, .dec false)], .n 2, .r [(4, .dec false)], .n 1, .r [(10, .call (.p (.int .i64 y_59)) [])], .n 3, .r [(2, .dec false)], .n 2, .r [(2, .dec false)], .n 5, .r [(1, .dec false)], .n 8, .k [0, 1, 5, 6, 7]] (by kernel_rfl) (Obs.of (by kernel_rfl) (And.intro (nt g_1) (And.intro g_34 (And.intro (nt g_35) (And.intro (nt g_46) (And.intro g_57 (And.intro g_58 (And.intro (erasureref01_CompareRows.spec e_60) (And.intro (nt g_61) (And.intro (nt g_63) (And.intro g_57 (And.intro g_58 (nt g_65))))))))))))) (ih _ _ _ _ _ r h)
      · obtain rfl := Option.some.inj h
        exact RunC.out [.n 2, .r [(4, .dec false), (9, .dec false)], .n 4] (by kernel_rfl) (Obs.of (by kernel_rfl) (And.intro (nt g_1) (nt g_34)))
theorem erasureref06_merge.run   {k : Nat} {a0 : (List TEntry)} {b1 : (List TEntry)} {r : (List TEntry)} (h : erasureref06_merge k a0 b1 = some r) : RunC Try.prog Try.f69 erasureref06_merge.t (erasureref06_merge.s a0 b1) (.sref 0 36 2 (r).length) [(oL true 36 2 cEntry dEntry (r))] := by
  unfold erasureref06_merge at h
  exact RunC.go [.n 1, .r [(0, .obj (oL true 36 2 cEntry dEntry ([] : List TEntry)))], .n 1, .r [(0, .obj (oL true 36 2 cEntry dEntry ([] : List TEntry)))], .n 5, .k [0, 1, 5, 6, 7]] (by kernel_rfl) (Obs.of (by kernel_rfl) (And.intro (le_nil 36 2 cEntry dEntry) (le_nil 36 2 cEntry dEntry))) (erasureref06_merge.p1.run k _ _ _ _ _ r h)
theorem erasureref06_merge.p1.mono   : ∀ (k k' : Nat) (a0 : (List TEntry)) (b1 : (List TEntry)) (i6 : Int) (k7 : Int) (out5 : (List TEntry)) (r : (List TEntry)), k ≤ k' → erasureref06_merge.p1 k a0 b1 i6 k7 out5 = some r → erasureref06_merge.p1 k' a0 b1 i6 k7 out5 = some r := by
  intro k
  induction k with
  | zero => intro k' a0 b1 i6 k7 out5 r hk h; simp [erasureref06_merge.p1] at h
  | succ k ih =>
    intro k' a0 b1 i6 k7 out5 r hk h
    obtain ⟨k', rfl⟩ : ∃ m, k' = m + 1 := ⟨k' - 1, by omega⟩
    replace hk := Nat.le_of_succ_le_succ hk
    rw [erasureref06_merge.p1] at h ⊢
    rcases ite_or h with ⟨g_1, h⟩ | ⟨g_1, h⟩
    · refine itp g_1 ?_
      rcases ite_or h with ⟨g_2, h⟩ | ⟨g_2, h⟩
      · refine itp g_2 ?_
        rcases ite_or h with ⟨g_3, h⟩ | ⟨g_3, h⟩
        · refine itp g_3 ?_
          obtain ⟨g_4, h⟩ := ite_some h
          refine itp g_4 ?_
          obtain ⟨g_5, h⟩ := ite_some h
          refine itp g_5 ?_
          exact ih _ _ _ _ _ _ r hk h
        · refine itn g_3 ?_
          rcases ite_or h with ⟨g_6, h⟩ | ⟨g_6, h⟩
          · refine itp g_6 ?_
            obtain ⟨g_7, h⟩ := ite_some h
            refine itp g_7 ?_
            obtain ⟨g_8, h⟩ := ite_some h
            refine itp g_8 ?_
            exact ih _ _ _ _ _ _ r hk h
          · refine itn g_6 ?_
            obtain ⟨g_9, h⟩ := ite_some h
            refine itp g_9 ?_
            obtain ⟨g_10, h⟩ := ite_some h
            refine itp g_10 ?_
            rcases ite_or h with ⟨g_11, h⟩ | ⟨g_11, h⟩
            · refine itp g_11 ?_
              obtain ⟨g_12, h⟩ := ite_some h
              refine itp g_12 ?_
              exact ih _ _ _ _ _ _ r hk h
            · refine itn g_11 ?_
              exact ih _ _ _ _ _ _ r hk h
      · refine itn g_2 ?_
        rcases ite_or h with ⟨g_13, h⟩ | ⟨g_13, h⟩
        · refine itp g_13 ?_
          rcases ite_or h with ⟨g_14, h⟩ | ⟨g_14, h⟩
          · refine itp g_14 ?_
            obtain ⟨g_15, h⟩ := ite_some h
            refine itp g_15 ?_
            obtain ⟨g_16, h⟩ := ite_some h
            refine itp g_16 ?_
            exact ih _ _ _ _ _ _ r hk h
          · refine itn g_14 ?_
            rcases ite_or h with ⟨g_17, h⟩ | ⟨g_17, h⟩
            · refine itp g_17 ?_
              obtain ⟨g_18, h⟩ := ite_some h
              refine itp g_18 ?_
              obtain ⟨g_19, h⟩ := ite_some h
              refine itp g_19 ?_
              exact ih _ _ _ _ _ _ r hk h
            · refine itn g_17 ?_
              obtain ⟨g_20, h⟩ := ite_some h
              refine itp g_20 ?_
              obtain ⟨g_21, h⟩ := ite_some h
              refine itp g_21 ?_
              rcases ite_or h with ⟨g_22, h⟩ | ⟨g_22, h⟩
              · refine itp g_22 ?_
                obtain ⟨g_23, h⟩ := ite_some h
                refine itp g_23 ?_
                exact ih _ _ _ _ _ _ r hk h
              · refine itn g_22 ?_
                exact ih _ _ _ _ _ _ r hk h
        · refine itn g_13 ?_
          obtain ⟨g_24, h⟩ := ite_some h
          refine itp g_24 ?_
          obtain ⟨g_25, h⟩ := ite_some h
          refine itp g_25 ?_
          obtain ⟨y_26, e_27, h⟩ := bind_or h
          refine bnd (erasureref01_CompareRows.mono _ _ _ _ _ hk e_27) ?_
          rcases ite_or h with ⟨g_28, h⟩ | ⟨g_28, h⟩
          · refine itp g_28 ?_
            obtain ⟨g_29, h⟩ := ite_some h
            refine itp g_29 ?_
            exact ih _ _ _ _ _ _ r hk h
          · refine itn g_28 ?_
            rcases ite_or h with ⟨g_30, h⟩ | ⟨g_30, h⟩
            · refine itp g_30 ?_
              obtain ⟨g_31, h⟩ := ite_some h
              refine itp g_31 ?_
              exact ih _ _ _ _ _ _ r hk h
            · refine itn g_30 ?_
              rcases ite_or h with ⟨g_32, h⟩ | ⟨g_32, h⟩
              · refine itp g_32 ?_
                obtain ⟨g_33, h⟩ := ite_some h
                refine itp g_33 ?_
                exact ih _ _ _ _ _ _ r hk h
              · refine itn g_32 ?_
                exact ih _ _ _ _ _ _ r hk h
    · refine itn g_1 ?_
      rcases ite_or h with ⟨g_34, h⟩ | ⟨g_34, h⟩
      · refine itp g_34 ?_
        rcases ite_or h with ⟨g_35, h⟩ | ⟨g_35, h⟩
        · refine itp g_35 ?_
          rcases ite_or h with ⟨g_36, h⟩ | ⟨g_36, h⟩
          · refine itp g_36 ?_
            obtain ⟨g_37, h⟩ := ite_some h
            refine itp g_37 ?_
            obtain ⟨g_38, h⟩ := ite_some h
            refine itp g_38 ?_
            exact ih _ _ _ _ _ _ r hk h
          · refine itn g_36 ?_
            rcases ite_or h with ⟨g_39, h⟩ | ⟨g_39, h⟩
            · refine itp g_39 ?_
              obtain ⟨g_40, h⟩ := ite_some h
              refine itp g_40 ?_
              obtain ⟨g_41, h⟩ := ite_some h
              refine itp g_41 ?_
              exact ih _ _ _ _ _ _ r hk h
            · refine itn g_39 ?_
              obtain ⟨g_42, h⟩ := ite_some h
              refine itp g_42 ?_
              obtain ⟨g_43, h⟩ := ite_some h
              refine itp g_43 ?_
              rcases ite_or h with ⟨g_44, h⟩ | ⟨g_44, h⟩
              · refine itp g_44 ?_
                obtain ⟨g_45, h⟩ := ite_some h
                refine itp g_45 ?_
                exact ih _ _ _ _ _ _ r hk h
              · refine itn g_44 ?_
                exact ih _ _ _ _ _ _ r hk h
        · refine itn g_35 ?_
          rcases ite_or h with ⟨g_46, h⟩ | ⟨g_46, h⟩
          · refine itp g_46 ?_
            rcases ite_or h with ⟨g_47, h⟩ | ⟨g_47, h⟩
            · refine itp g_47 ?_
              obtain ⟨g_48, h⟩ := ite_some h
              refine itp g_48 ?_
              obtain ⟨g_49, h⟩ := ite_some h
              refine itp g_49 ?_
              exact ih _ _ _ _ _ _ r hk h
            · refine itn g_47 ?_
              rcases ite_or h with ⟨g_50, h⟩ | ⟨g_50, h⟩
              · refine itp g_50 ?_
                obtain ⟨g_51, h⟩ := ite_some h
                refine itp g_51 ?_
                obtain ⟨g_52, h⟩ := ite_some h
                refine itp g_52 ?_
                exact ih _ _ _ _ _ _ r hk h
              · refine itn g_50 ?_
                obtain ⟨g_53, h⟩ := ite_some h
                refine itp g_53 ?_
                obtain ⟨g_54, h⟩ := ite_some h
                refine itp g_54 ?_
                rcases ite_or h with ⟨g_55, h⟩ | ⟨g_55, h⟩
                · refine itp g_55 ?_
                  obtain ⟨g_56, h⟩ := ite_some h
                  refine itp g_56 ?_
                  exact ih _ _ _ _ _ _ r hk h
                · refine itn g_55 ?_
                  exact ih _ _ _ _ _ _ r hk h
          · refine itn g_46 ?_
            obtain ⟨g_57, h⟩ := ite_some h
            refine itp g_57 ?_
            obtain ⟨g_58, h⟩ := ite_some h
            refine itp g_58 ?_
            obtain ⟨y_59, e_60, h⟩ := bind_or h
            refine bnd (erasureref01_CompareRows.mono _ _ _ _ _ hk e_60) ?_
            rcases ite_or h with ⟨g_61, h⟩ | ⟨g_61, h⟩
            · refine itp g_61 ?_
              obtain ⟨g_62, h⟩ := ite_some h
              refine itp g_62 ?_
              exact ih _ _ _ _ _ _ r hk h
            · refine itn g_61 ?_
              rcases ite_or h with ⟨g_63, h⟩ | ⟨g_63, h⟩
              · refine itp g_63 ?_
                obtain ⟨g_64, h⟩ := ite_some h
                refine itp g_64 ?_
                exact ih _ _ _ _ _ _ r hk h
              · refine itn g_63 ?_
                rcases ite_or h with ⟨g_65, h⟩ | ⟨g_65, h⟩
                · refine itp g_65 ?_
                  obtain ⟨g_66, h⟩ := ite_some h
                  refine itp g_66 ?_
                  exact ih _ _ _ _ _ _ r hk h
                · refine itn g_65 ?_
                  exact ih _ _ _ _ _ _ r hk h
      · refine itn g_34 ?_
        exact h
theorem erasureref06_merge.mono   : ∀ (k k' : Nat) (a0 : (List TEntry)) (b1 : (List TEntry)) (r : (List TEntry)), k ≤ k' → erasureref06_merge k a0 b1 = some r → erasureref06_merge k' a0 b1 = some r := by
  intro k k' a0 b1 r hk h
  unfold erasureref06_merge at h ⊢
  exact erasureref06_merge.p1.mono _ _ _ _ _ _ _ r hk h
theorem erasureref06_merge.spec {k : Nat} {a0 : (List TEntry)} {b1 : (List TEntry)} {r : (List TEntry)} (h : erasureref06_merge k a0 b1 = some r) : Spec Try.prog 69 [.p (eL 2 cEntry dEntry a0), .p (eL 2 cEntry dEntry b1)] (.sref 0 36 2 (r).length) [(oL true 36 2 cEntry dEntry (r))] :=
  spec_of mix Try.func69 (body := bodyOf Try.f69) (by kernel_rfl) (by kernel_rfl) (erasureref06_merge.run h)
end Go.Proofs.YtjhnpaenhdbhpabV
set_option linter.unusedVariables false
set_option linter.unusedSimpArgs false
set_option maxRecDepth 100000
namespace Go.Proofs.YtjhnpaenhdbhpabV
open Go Go.RowKit
noncomputable def erasureref06_sort  : Nat → (List TEntry) → Option (List TEntry)
  | 0, _ => none
  | k + 1, l0 => if (((l0).length : Int) == 0) = true then (some ([] : List TEntry)) else (if (((l0).length : Int) == 1) = true then (if 0 ≤ (0 : Int) ∧ (0 : Int) < ((l0).length : Int) then (if ((l0.getD (0 : Int).toNat dEntry).f1 == 0) = true then (some ([] : List TEntry)) else (some ([(l0.getD (0 : Int).toNat dEntry)]))) else none) else (if 0 ≤ (0 : Int) ∧ (0 : Int) ≤ (IntKind.i64.wrap (((l0).length : Int).tdiv 2)) ∧ (IntKind.i64.wrap (((l0).length : Int).tdiv 2)) ≤ ((l0).length : Int) then ((erasureref06_sort k (subL l0 (0 : Int) (IntKind.i64.wrap (((l0).length : Int).tdiv 2)))).bind fun y_6 => (if 0 ≤ (IntKind.i64.wrap (((l0).length : Int).tdiv 2)) ∧ (IntKind.i64.wrap (((l0).length : Int).tdiv 2)) ≤ ((l0).length : Int) ∧ ((l0).length : Int) ≤ ((l0).length : Int) then ((erasureref06_sort k (subL l0 (IntKind.i64.wrap (((l0).length : Int).tdiv 2)) ((l0).length : Int))).bind fun y_9 => ((erasureref06_merge k y_6 y_9).bind fun y_11 => (some y_11))) else none)) else none))
noncomputable def erasureref06_sort.t : List Item := [.code (bodyOf Try.f58)]
noncomputable def erasureref06_sort.s (l0 : (List TEntry)) : St := ⟨frOf Try.f58.ntmps 0 [(0, .p (eL 2 cEntry dEntry l0))], []⟩
theorem erasureref06_sort.run {k : Nat} (ih : ∀ {l0 : (List TEntry)} {r : (List TEntry)}, erasureref06_sort k l0 = some r → Spec Try.prog 58 [.p (eL 2 cEntry dEntry l0)] (.p ((eL 2 cEntry dEntry r))) []) {l0 : (List TEntry)} {r : (List TEntry)} (h : erasureref06_sort (k + 1) l0 = some r) : RunC Try.prog Try.f58 erasureref06_sort.t (erasureref06_sort.s l0) (.p ((eL 2 cEntry dEntry r))) [] := by
  rw [erasureref06_sort] at h
  rcases ite_or h with ⟨g_1, h⟩ | ⟨g_1, h⟩
  · obtain rfl := Option.some.inj h
    exact RunC.out [.n 1, .r [(0, .obj (oL true 36 2 cEntry dEntry ([] : List TEntry)))], .n 2, .r [(2, .dec true)], .n 2, .r [(0, .obj (oL true 36 2 cEntry dEntry ([] : List TEntry)))], .f 2] (by kernel_rfl) (Obs.of (by kernel_rfl) (And.intro (le_nil 36 2 cEntry dEntry) (And.intro g_1 (le_nil 36 2 cEntry dEntry))))
  · rcases ite_or h with ⟨g_2, h⟩ | ⟨g_2, h⟩
    · obtain ⟨g_3, h⟩ := ite_some h
      rcases ite_or h with ⟨g_4, h⟩ | ⟨g_4, h⟩
      · obtain rfl := Option.some.inj h
        exact RunC.out [.n 1, .r [(0, .obj (oL true 36 2 cEntry dEntry ([] : List TEntry)))], .n 2, .r [(2, .dec false)], .n 4, .r [(2, .dec true)], .n 3, .r [(4, .dec true)], .n 2, .r [(0, .obj (oL true 36 2 cEntry dEntry ([] : List TEntry)))], .f 2] (by kernel_rfl) (Obs.of (by kernel_rfl) (And.intro (le_nil 36 2 cEntry dEntry) (And.intro (nt g_1) (And.intro g_2 (And.intro g_3 (And.intro g_4 (le_nil 36 2 cEntry dEntry)))))))
      · obtain rfl := Option.some.inj h
        exact RunC.out [.n 1, .r [(0, .obj (oL true 36 2 cEntry dEntry ([] : List TEntry)))], .n 2, .r [(2, .dec false)], .n 4, .r [(2, .dec true)], .n 3, .r [(4, .dec false)], .n 3, .r [(3, .obj (oL true 36 2 cEntry dEntry [(l0.getD (0 : Int).toNat dEntry)]))], .f 2] (by kernel_rfl) (Obs.of (by kernel_rfl) (And.intro (le_nil 36 2 cEntry dEntry) (And.intro (nt g_1) (And.intro g_2 (And.intro g_3 (And.intro (nt g_4) (And.intro g_3 (le_one 36 2 cEntry dEntry (l0.getD (0 : Int).toNat dEntry)))))))))
    · obtain ⟨g_5, h⟩ := ite_some h
      obtain ⟨y_6, e_7, h⟩ := bind_or h
      obtain ⟨g_8, h⟩ := ite_some h
      obtain ⟨y_9, e_10, h⟩ := bind_or h
      obtain ⟨y_11, e_12, h⟩ := bind_or h
      obtain rfl := Option.some.inj h
      exact RunC.out [.n 1, .r [(0, .obj (oL true 36 2 cEntry dEntry ([] : List TEntry)))], .n 2, .r [(2, .dec false)], .n 4, .r [(2, .dec false)], .n 3, .r [(4, .av (eL 2 cEntry dEntry (subL l0 (0 : Int) (IntKind.i64.wrap (((l0).length : Int).tdiv 2))))), (5, .call (.p (eL 2 cEntry dEntry y_6)) []), (10, .av (eL 2 cEntry dEntry (subL l0 (IntKind.i64.wrap (((l0).length : Int).tdiv 2)) ((l0).length : Int)))), (11, .call (.p (eL 2 cEntry dEntry y_9)) []), (12, .call (.sref 0 36 2 (y_11).length) [(oL true 36 2 cEntry dEntry y_11)])], .f 2] (by kernel_rfl) (Obs.of (by kernel_rfl) (And.intro (le_nil 36 2 cEntry dEntry) (And.intro (nt g_1) (And.intro (nt g_2) (And.intro (show (2 : Int) ≠ 0 from (by decide)) (And.intro (And.intro g_5 (av_slice 2 cEntry dEntry l0 (0 : Int) (IntKind.i64.wrap (((l0).length : Int).tdiv 2)) g_5)) (And.intro (ih e_7) (And.intro (show (2 : Int) ≠ 0 from (by decide)) (And.intro (And.intro g_8 (av_slice 2 cEntry dEntry l0 (IntKind.i64.wrap (((l0).length : Int).tdiv 2)) ((l0).length : Int) g_8)) (And.intro (ih e_10) (erasureref06_merge.spec e_12)))))))))))
theorem erasureref06_sort.mono   : ∀ (k k' : Nat) (l0 : (List TEntry)) (r : (List TEntry)), k ≤ k' → erasureref06_sort k l0 = some r → erasureref06_sort k' l0 = some r := by
  intro k
  induction k with
  | zero => intro k' l0 r hk h; simp [erasureref06_sort] at h
  | succ k ih =>
    intro k' l0 r hk h
    obtain ⟨k', rfl⟩ : ∃ m, k' = m + 1 := ⟨k' - 1, by omega⟩
    replace hk := Nat.le_of_succ_le_succ hk
    rw [erasureref06_sort] at h ⊢
    rcases ite_or h with ⟨g_1, h⟩ | ⟨g_1, h⟩
    · refine itp g_1 ?_
      exact h
    · refine itn g_1 ?_
      rcases ite_or h with ⟨g_2, h⟩ | ⟨g_2, h⟩
      · refine itp g_2 ?_
        obtain ⟨g_3, h⟩ := ite_some h
        refine itp g_3 ?_
        rcases ite_or h with ⟨g_4, h⟩ | ⟨g_4, h⟩
        · refine itp g_4 ?_
          exact h
        · refine itn g_4 ?_
          exact h
      · refine itn g_2 ?_
        obtain ⟨g_5, h⟩ := ite_some h
        refine itp g_5 ?_
        obtain ⟨y_6, e_7, h⟩ := bind_or h
        refine bnd (ih _ _ _ hk e_7) ?_
        obtain ⟨g_8, h⟩ := ite_some h
        refine itp g_8 ?_
        obtain ⟨y_9, e_10, h⟩ := bind_or h
        refine bnd (ih _ _ _ hk e_10) ?_
        obtain ⟨y_11, e_12, h⟩ := bind_or h
        refine bnd (erasureref06_merge.mono _ _ _ _ _ hk e_12) ?_
        exact h
theorem erasureref06_sort.specs (k : Nat) : ∀ {l0 : (List TEntry)} {r : (List TEntry)}, erasureref06_sort k l0 = some r → Spec Try.prog 58 [.p (eL 2 cEntry dEntry l0)] (.p ((eL 2 cEntry dEntry r))) [] := by
  induction k with
  | zero => intro l0 r h; simp [erasureref06_sort] at h
  | succ k ih => intro l0 r h; exact spec_of mix Try.func58 (body := bodyOf Try.f58) (by kernel_rfl) (by kernel_rfl) (erasureref06_sort.run ih h)
theorem erasureref06_sort.spec {k : Nat} {l0 : (List TEntry)} {r : (List TEntry)} (h : erasureref06_sort k l0 = some r) : Spec Try.prog 58 [.p (eL 2 cEntry dEntry l0)] (.p ((eL 2 cEntry dEntry r))) [] := erasureref06_sort.specs k h
end Go.Proofs.YtjhnpaenhdbhpabV
set_option linter.unusedVariables false
set_option linter.unusedSimpArgs false
set_option maxRecDepth 100000
namespace Go.Proofs.YtjhnpaenhdbhpabV
open Go Go.RowKit
noncomputable def erasureref06_fits.p1  : Nat → (List TEntry) → Int → Option ((List TEntry) × Int)
  | 0, _, _ => none
  | k + 1, l0, i4 => if (decide (i4 < ((l0).length : Int))) = true then (if 0 ≤ i4 ∧ i4 < ((l0).length : Int) then ((erasureref06_countOK k ((l0.getD i4.toNat dEntry).f1)).bind fun y_4 => (if (!y_4) = true then (some (([] : List TEntry), 9)) else (erasureref06_fits.p1 k l0 (IntKind.i64.wrap (i4 + 1))))) else none) else (some (l0, 0))
noncomputable def erasureref06_fits  (k : Nat) (l0 : (List TEntry)) : Option ((List TEntry) × Int) := if (decide (((l0).length : Int) > 4096)) = true then (some (([] : List TEntry), 8)) else (erasureref06_fits.p1 k l0 0)
noncomputable def erasureref06_fits.t : List Item := [.code (bodyOf Try.f57)]
noncomputable def erasureref06_fits.s (l0 : (List TEntry)) : St := ⟨frOf Try.f57.ntmps 0 [(0, .p (eL 2 cEntry dEntry l0))], []⟩
noncomputable def erasureref06_fits.p1.t : List Item := nav 12 [false] erasureref06_fits.t
noncomputable def erasureref06_fits.p1.s (l0 : (List TEntry)) (i4 : Int) : St := ⟨frOf Try.f57.ntmps 0 [(0, .p (eL 2 cEntry dEntry l0)), (4, .p (.int .i64 i4))], []⟩
theorem erasureref06_fits.p1.run   : ∀ (k : Nat) (l0 : (List TEntry)) (i4 : Int) (r : ((List TEntry) × Int)), erasureref06_fits.p1 k l0 i4 = some r → RunC Try.prog Try.f57 erasureref06_fits.p1.t (erasureref06_fits.p1.s l0 i4) (.tup [.p ((eL 2 cEntry dEntry r.1)), .p (.int .i64 r.2)]) [] := by
  intro k
  induction k with
  | zero => intro l0 i4 r h; simp [erasureref06_fits.p1] at h
  | succ k ih =>
    intro l0 i4 r h
    rw [erasureref06_fits.p1] at h
    rcases ite_or h with ⟨g_2, h⟩ | ⟨g_2, h⟩
    · obtain ⟨g_3, h⟩ := ite_some h
      obtain ⟨y_4, e_5, h⟩ := bind_or h
      rcases ite_or h with ⟨g_6, h⟩ | ⟨g_6, h⟩
      · obtain rfl := Option.some.inj h
        exact RunC.out [.n 2, .r [(3, .dec true)], .n 5, .r [(5, .call (.p (.bool y_4)) []), (6, .dec true)], .n 2, .r [(0, .obj (oL true 36 2 cEntry dEntry ([] : List TEntry)))], .f 2] (by kernel_rfl) (Obs.of (by kernel_rfl) (And.intro g_2 (And.intro g_3 (And.intro (erasureref06_countOK.spec e_5) (And.intro g_6 (le_nil 36 2 cEntry dEntry))))))
      · exact RunC.go [.n 2, .r [(3, .dec true)], .n 5, .r [(5, .call (.p (.bool y_4)) []), (6, .dec false)], .n 5, .k [0, 4]] (by kernel_rfl) (Obs.of (by kernel_rfl) (And.intro g_2 (And.intro g_3 (And.intro (erasureref06_countOK.spec e_5) (nt g_6))))) (ih _ _ r h)
    · obtain rfl := Option.some.inj h
      exact RunC.out [.n 2, .r [(3, .dec false)], .n 4] (by kernel_rfl) (Obs.of (by kernel_rfl) (nt g_2))
theorem erasureref06_fits.run   {k : Nat} {l0 : (List TEntry)} {r : ((List TEntry) × Int)} (h : erasureref06_fits k l0 = some r) : RunC Try.prog Try.f57 erasureref06_fits.t (erasureref06_fits.s l0) (.tup [.p ((eL 2 cEntry dEntry r.1)), .p (.int .i64 r.2)]) [] := by
  unfold erasureref06_fits at h
  rcases ite_or h with ⟨g_1, h⟩ | ⟨g_1, h⟩
  · obtain rfl := Option.some.inj h
    exact RunC.out [.n 1, .r [(0, .obj (oL true 36 2 cEntry dEntry ([] : List TEntry)))], .n 2, .r [(2, .dec true)], .n 2, .r [(0, .obj (oL true 36 2 cEntry dEntry ([] : List TEntry)))], .f 2] (by kernel_rfl) (Obs.of (by kernel_rfl) (And.intro (le_nil 36 2 cEntry dEntry) (And.intro g_1 (le_nil 36 2 cEntry dEntry))))
  · exact RunC.go [.n 1, .r [(0, .obj (oL true 36 2 cEntry dEntry ([] : List TEntry)))], .n 2, .r [(2, .dec false)], .n 7, .k [0, 4]] (by kernel_rfl) (Obs.of (by kernel_rfl) (And.intro (le_nil 36 2 cEntry dEntry) (nt g_1))) (erasureref06_fits.p1.run k _ _ r h)
theorem erasureref06_fits.p1.mono   : ∀ (k k' : Nat) (l0 : (List TEntry)) (i4 : Int) (r : ((List TEntry) × Int)), k ≤ k' → erasureref06_fits.p1 k l0 i4 = some r → erasureref06_fits.p1 k' l0 i4 = some r := by
  intro k
  induction k with
  | zero => intro k' l0 i4 r hk h; simp [erasureref06_fits.p1] at h
  | succ k ih =>
    intro k' l0 i4 r hk h
    obtain ⟨k', rfl⟩ : ∃ m, k' = m + 1 := ⟨k' - 1, by omega⟩
    replace hk := Nat.le_of_succ_le_succ hk
    rw [erasureref06_fits.p1] at h ⊢
    rcases ite_or h with ⟨g_2, h⟩ | ⟨g_2, h⟩
    · refine itp g_2 ?_
      obtain ⟨g_3, h⟩ := ite_some h
      refine itp g_3 ?_
      obtain ⟨y_4, e_5, h⟩ := bind_or h
      refine bnd (erasureref06_countOK.mono _ _ _ _ hk e_5) ?_
      rcases ite_or h with ⟨g_6, h⟩ | ⟨g_6, h⟩
      · refine itp g_6 ?_
        exact h
      · refine itn g_6 ?_
        exact ih _ _ _ r hk h
    · refine itn g_2 ?_
      exact h
theorem erasureref06_fits.mono   : ∀ (k k' : Nat) (l0 : (List TEntry)) (r : ((List TEntry) × Int)), k ≤ k' → erasureref06_fits k l0 = some r → erasureref06_fits k' l0 = some r := by
  intro k k' l0 r hk h
  unfold erasureref06_fits at h ⊢
  rcases ite_or h with ⟨g_1, h⟩ | ⟨g_1, h⟩
  · refine itp g_1 ?_
    exact h
  · refine itn g_1 ?_
    exact erasureref06_fits.p1.mono _ _ _ _ r hk h
theorem erasureref06_fits.spec {k : Nat} {l0 : (List TEntry)} {r : ((List TEntry) × Int)} (h : erasureref06_fits k l0 = some r) : Spec Try.prog 57 [.p (eL 2 cEntry dEntry l0)] (.tup [.p ((eL 2 cEntry dEntry r.1)), .p (.int .i64 r.2)]) [] :=
  spec_of mix Try.func57 (body := bodyOf Try.f57) (by kernel_rfl) (by kernel_rfl) (erasureref06_fits.run h)
end Go.Proofs.YtjhnpaenhdbhpabV
set_option linter.unusedVariables false
set_option linter.unusedSimpArgs false
set_option maxRecDepth 100000
namespace Go.Proofs.YtjhnpaenhdbhpabV
open Go Go.RowKit
noncomputable def erasureref06_Normalize.p1  : Nat → (List TEntry) → Int → Option ((List TEntry) × Int)
  | 0, _, _ => none
  | k + 1, l0, i4 => if (decide (i4 < ((l0).length : Int))) = true then (if 0 ≤ i4 ∧ i4 < ((l0).length : Int) then ((erasureref01_ValidRow k ((l0.getD i4.toNat dEntry).f0)).bind fun y_3 => (if (!y_3) = true then (some (([] : List TEntry), 1)) else ((erasureref06_countOK k ((l0.getD i4.toNat dEntry).f1)).bind fun y_6 => (if (!y_6) = true then (some (([] : List TEntry), 1)) else (erasureref06_Normalize.p1 k l0 (IntKind.i64.wrap (i4 + 1))))))) else none) else ((erasureref06_sort k l0).bind fun y_9 => ((erasureref06_fits k y_9).bind fun y_11 => (some (y_11.1, y_11.2))))
noncomputable def erasureref06_Normalize  (k : Nat) (l0 : (List TEntry)) : Option ((List TEntry) × Int) := erasureref06_Normalize.p1 k l0 0
noncomputable def erasureref06_Normalize.t : List Item := [.code (bodyOf Try.f35)]
noncomputable def erasureref06_Normalize.s (l0 : (List TEntry)) : St := ⟨frOf Try.f35.ntmps 0 [(0, .p (eL 2 cEntry dEntry l0))], []⟩
noncomputable def erasureref06_Normalize.p1.t : List Item := nav 7 [] erasureref06_Normalize.t
noncomputable def erasureref06_Normalize.p1.s (l0 : (List TEntry)) (i4 : Int) : St := ⟨frOf Try.f35.ntmps 0 [(0, .p (eL 2 cEntry dEntry l0)), (4, .p (.int .i64 i4))], []⟩
theorem erasureref06_Normalize.p1.run   : ∀ (k : Nat) (l0 : (List TEntry)) (i4 : Int) (r : ((List TEntry) × Int)), erasureref06_Normalize.p1 k l0 i4 = some r → RunC Try.prog Try.f35 erasureref06_Normalize.p1.t (erasureref06_Normalize.p1.s l0 i4) (.tup [.p ((eL 2 cEntry dEntry r.1)), .p (.int .i64 r.2)]) [] := by
  intro k
  induction k with
  | zero => intro l0 i4 r h; simp [erasureref06_Normalize.p1] at h
  | succ k ih =>
    intro l0 i4 r h
    rw [erasureref06_Normalize.p1] at h
    rcases ite_or h with ⟨g_1, h⟩ | ⟨g_1, h⟩
    · obtain ⟨g_2, h⟩ := ite_some h
      obtain ⟨y_3, e_4, h⟩ := bind_or h
      rcases ite_or h with ⟨g_5, h⟩ | ⟨g_5, h⟩
      · obtain rfl := Option.some.inj h
        exact RunC.out [.n 2, .r [(3, .dec true)], .n 5, .r [(5, .call (.p (.bool y_3)) []), (7, .dec true)], .n 2, .r [(0, .obj (oL true 36 2 cEntry dEntry ([] : List TEntry)))], .f 2] (by kernel_rfl) (Obs.of (by kernel_rfl) (And.intro g_1 (And.intro g_2 (And.intro (erasureref01_ValidRow.spec e_4) (And.intro g_5 (le_nil 36 2 cEntry dEntry))))))
      · obtain ⟨y_6, e_7, h⟩ := bind_or h
        rcases ite_or h with ⟨g_8, h⟩ | ⟨g_8, h⟩
        · obtain rfl := Option.some.inj h
          exact RunC.out [.n 2, .r [(3, .dec true)], .n 5, .r [(5, .call (.p (.bool y_3)) []), (7, .dec false), (13, .call (.p (.bool y_6)) []), (15, .dec true)], .n 2, .r [(0, .obj (oL true 36 2 cEntry dEntry ([] : List TEntry)))], .f 2] (by kernel_rfl) (Obs.of (by kernel_rfl) (And.intro g_1 (And.intro g_2 (And.intro (erasureref01_ValidRow.spec e_4) (And.intro (nt g_5) (And.intro g_2 (And.intro (erasureref06_countOK.spec e_7) (And.intro g_8 (le_nil 36 2 cEntry dEntry)))))))))
        · exact RunC.go [.n 2, .r [(3, .dec true)], .n 5, .r [(5, .call (.p (.bool y_3)) []), (7, .dec false), (13, .call (.p (.bool y_6)) []), (15, .dec false)], .n 5, .k [0, 4]] (by kernel_rfl) (Obs.of (by kernel_rfl) (And.intro g_1 (And.intro g_2 (And.intro (erasureref01_ValidRow.spec e_4) (And.intro (nt g_5) (And.intro g_2 (And.intro (erasureref06_countOK.spec e_7) (nt g_8)))))))) (ih _ _ r h)
    · obtain ⟨y_9, e_10, h⟩ := bind_or h
      obtain ⟨y_11, e_12, h⟩ := bind_or h
      obtain rfl := Option.some.inj h
      exact RunC.out [.n 2, .r [(3, .dec false)], .n 3, .r [(1, .call (.p (eL 2 cEntry dEntry y_9)) []), (2, .call (.tup [.p (eL 2 cEntry dEntry y_11.1), .p (.int .i64 y_11.2)]) [])]] (by kernel_rfl) (Obs.of (by kernel_rfl) (And.intro (nt g_1) (And.intro (erasureref06_sort.spec e_10) (erasureref06_fits.spec e_12))))
theorem erasureref06_Normalize.run   {k : Nat} {l0 : (List TEntry)} {r : ((List TEntry) × Int)} (h : erasureref06_Normalize k l0 = some r) : RunC Try.prog Try.f35 erasureref06_Normalize.t (erasureref06_Normalize.s l0) (.tup [.p ((eL 2 cEntry dEntry r.1)), .p (.int .i64 r.2)]) [] := by
  unfold erasureref06_Normalize at h
  exact RunC.go [.n 1, .r [(0, .obj (oL true 36 2 cEntry dEntry ([] : List TEntry)))], .n 5, .k [0, 4]] (by kernel_rfl) (Obs.of (by kernel_rfl) (le_nil 36 2 cEntry dEntry)) (erasureref06_Normalize.p1.run k _ _ r h)
theorem erasureref06_Normalize.p1.mono   : ∀ (k k' : Nat) (l0 : (List TEntry)) (i4 : Int) (r : ((List TEntry) × Int)), k ≤ k' → erasureref06_Normalize.p1 k l0 i4 = some r → erasureref06_Normalize.p1 k' l0 i4 = some r := by
  intro k
  induction k with
  | zero => intro k' l0 i4 r hk h; simp [erasureref06_Normalize.p1] at h
  | succ k ih =>
    intro k' l0 i4 r hk h
    obtain ⟨k', rfl⟩ : ∃ m, k' = m + 1 := ⟨k' - 1, by omega⟩
    replace hk := Nat.le_of_succ_le_succ hk
    rw [erasureref06_Normalize.p1] at h ⊢
    rcases ite_or h with ⟨g_1, h⟩ | ⟨g_1, h⟩
    · refine itp g_1 ?_
      obtain ⟨g_2, h⟩ := ite_some h
      refine itp g_2 ?_
      obtain ⟨y_3, e_4, h⟩ := bind_or h
      refine bnd (erasureref01_ValidRow.mono _ _ _ _ hk e_4) ?_
      rcases ite_or h with ⟨g_5, h⟩ | ⟨g_5, h⟩
      · refine itp g_5 ?_
        exact h
      · refine itn g_5 ?_
        obtain ⟨y_6, e_7, h⟩ := bind_or h
        refine bnd (erasureref06_countOK.mono _ _ _ _ hk e_7) ?_
        rcases ite_or h with ⟨g_8, h⟩ | ⟨g_8, h⟩
        · refine itp g_8 ?_
          exact h
        · refine itn g_8 ?_
          exact ih _ _ _ r hk h
    · refine itn g_1 ?_
      obtain ⟨y_9, e_10, h⟩ := bind_or h
      refine bnd (erasureref06_sort.mono _ _ _ _ hk e_10) ?_
      obtain ⟨y_11, e_12, h⟩ := bind_or h
      refine bnd (erasureref06_fits.mono _ _ _ _ hk e_12) ?_
      exact h
theorem erasureref06_Normalize.mono   : ∀ (k k' : Nat) (l0 : (List TEntry)) (r : ((List TEntry) × Int)), k ≤ k' → erasureref06_Normalize k l0 = some r → erasureref06_Normalize k' l0 = some r := by
  intro k k' l0 r hk h
  unfold erasureref06_Normalize at h ⊢
  exact erasureref06_Normalize.p1.mono _ _ _ _ r hk h
theorem erasureref06_Normalize.spec {k : Nat} {l0 : (List TEntry)} {r : ((List TEntry) × Int)} (h : erasureref06_Normalize k l0 = some r) : Spec Try.prog 35 [.p (eL 2 cEntry dEntry l0)] (.tup [.p ((eL 2 cEntry dEntry r.1)), .p (.int .i64 r.2)]) [] :=
  spec_of mix Try.func35 (body := bodyOf Try.f35) (by kernel_rfl) (by kernel_rfl) (erasureref06_Normalize.run h)
end Go.Proofs.YtjhnpaenhdbhpabV
set_option linter.unusedVariables false
set_option linter.unusedSimpArgs false
set_option maxRecDepth 100000
namespace Go.Proofs.YtjhnpaenhdbhpabV
open Go Go.RowKit
noncomputable def erasurelaw30_CacheForgets.p2 (rec1 : (List TCached) → Int → Int → (List TCached) → (List TValue) → Option Bool) : Nat → (List TCached) → Int → Int → Bool → Int → (List TCached) → (List TValue) → Option Bool
  | 0, _, _, _, _, _, _, _ => none
  | k + 1, s1, n11, i12, has13, k14, u9, l10 => if (decide (k14 < ((l10).length : Int))) = true then (if has13 = true then (erasurelaw30_CacheForgets.p2 rec1 k s1 n11 i12 true (IntKind.i64.wrap (k14 + 1)) u9 l10) else (if 0 ≤ k14 ∧ k14 < ((l10).length : Int) then (if 0 ≤ i12 ∧ i12 < ((s1).length : Int) then (erasurelaw30_CacheForgets.p2 rec1 k s1 n11 i12 (((l10.getD k14.toNat dValue).f0 == (s1.getD i12.toNat dCached).f0.f0) && (((l10.getD k14.toNat dValue).f1 == (s1.getD i12.toNat dCached).f0.f1) && ((((l10.getD k14.toNat dValue).f2).data.toList == ((s1.getD i12.toNat dCached).f0.f2).data.toList) && true))) (IntKind.i64.wrap (k14 + 1)) u9 l10) else none) else none)) else (if (!has13) = true then (rec1 s1 n11 (IntKind.i64.wrap (i12 + 1)) u9 l10) else (if (decide (n11 ≥ ((u9).length : Int))) = true then (some false) else (if 0 ≤ n11 ∧ n11 < ((u9).length : Int) then (if 0 ≤ i12 ∧ i12 < ((s1).length : Int) then (if (!(((u9.getD n11.toNat dCached).f0.f0 == (s1.getD i12.toNat dCached).f0.f0) && (((u9.getD n11.toNat dCached).f0.f1 == (s1.getD i12.toNat dCached).f0.f1) && ((((u9.getD n11.toNat dCached).f0.f2).data.toList == ((s1.getD i12.toNat dCached).f0.f2).data.toList) && true)))) = true then (some false) else (if ((u9.getD n11.toNat dCached).f2 != 3) = true then (some false) else (if ((((u9.getD n11.toNat dCached).f1).length : Int) == 0) = true then (some false) else (rec1 s1 (IntKind.i64.wrap (n11 + 1)) (IntKind.i64.wrap (i12 + 1)) u9 l10)))) else none) else none)))
noncomputable def erasurelaw30_CacheForgets.p1  : Nat → (List TCached) → Int → Int → (List TCached) → (List TValue) → Option Bool
  | 0, _, _, _, _, _ => none
  | k + 1, s1, n11, i12, u9, l10 => if (decide (i12 < ((s1).length : Int))) = true then (erasurelaw30_CacheForgets.p2 (erasurelaw30_CacheForgets.p1 k) k s1 n11 i12 false 0 u9 l10) else (if (n11 == ((u9).length : Int)) = true then ((erasurelaw30_awake k ).bind fun y_44 => (some y_44)) else (some false))
noncomputable def erasurelaw30_CacheForgets  (k : Nat) (c0 : TCache) (s1 : (List TCached)) (rows2 : (List TEntry)) : Option Bool := (erasurelaw30_small k s1).bind fun y_1 => (if (!y_1) = true then ((erasurelaw30_awake k ).bind fun y_4 => (some y_4)) else ((erasurelaw30_short k rows2).bind fun y_6 => (if (!y_6) = true then ((erasurelaw30_awake k ).bind fun y_9 => (some y_9)) else (if (decide (c0.f3 < 0)) = true then ((erasurelaw30_awake k ).bind fun y_12 => (some y_12)) else (if (decide (c0.f3 > 1000)) = true then ((erasurelaw30_awake k ).bind fun y_15 => (some y_15)) else ((erasureref06_Normalize k rows2).bind fun y_17 => (if (y_17.2 != 0) = true then ((erasurelaw30_awake k ).bind fun y_20 => (some y_20)) else ((erasureref30_Valid k s1).bind fun y_22 => (if (!y_22) = true then ((erasurelaw30_awake k ).bind fun y_25 => (some y_25)) else ((cache_Refill k c0 s1 y_17.1 3).bind fun y_27 => ((cache_Touched k y_17.1 ([] : List TEntry) c0.f2).bind fun y_29 => (erasurelaw30_CacheForgets.p1 k s1 0 0 y_27 y_29))))))))))))
noncomputable def erasurelaw30_CacheForgets.t : List Item := [.code (bodyOf Try.f10)]
noncomputable def erasurelaw30_CacheForgets.s (c0 : TCache) (s1 : (List TCached)) (rows2 : (List TEntry)) : St := ⟨frOf Try.f10.ntmps 0 [(0, .agg ((cCache c0).map .p)), (1, .p (eL 5 cCached dCached s1)), (2, .p (eL 2 cEntry dEntry rows2))], []⟩
noncomputable def erasurelaw30_CacheForgets.p1.t : List Item := nav 25 [false, false] erasurelaw30_CacheForgets.t
noncomputable def erasurelaw30_CacheForgets.p1.s (s1 : (List TCached)) (n11 : Int) (i12 : Int) (u9 : (List TCached)) (l10 : (List TValue)) : St := ⟨frOf Try.f10.ntmps 0 [(1, .p (eL 5 cCached dCached s1)), (9, .sref 0 46 5 (u9).length), (10, .sref 1 24 3 (l10).length), (11, .p (.int .i64 n11)), (12, .p (.int .i64 i12))], [(oL true 46 5 cCached dCached u9), (oL true 24 3 cValue dValue l10)]⟩
noncomputable def erasurelaw30_CacheForgets.p2.t : List Item := nav 14 [true] erasurelaw30_CacheForgets.p1.t
noncomputable def erasurelaw30_CacheForgets.p2.s (s1 : (List TCached)) (n11 : Int) (i12 : Int) (has13 : Bool) (k14 : Int) (u9 : (List TCached)) (l10 : (List TValue)) : St := ⟨frOf Try.f10.ntmps 0 [(1, .p (eL 5 cCached dCached s1)), (9, .sref 0 46 5 (u9).length), (10, .sref 1 24 3 (l10).length), (11, .p (.int .i64 n11)), (12, .p (.int .i64 i12)), (13, .p (.bool has13)), (14, .p (.int .i64 k14))], [(oL true 46 5 cCached dCached u9), (oL true 24 3 cValue dValue l10)]⟩
theorem erasurelaw30_CacheForgets.p2.run {rec1 : (List TCached) → Int → Int → (List TCached) → (List TValue) → Option Bool} (hrec1 : ∀ (s1 : (List TCached)) (n11 : Int) (i12 : Int) (u9 : (List TCached)) (l10 : (List TValue)) r, rec1 s1 n11 i12 u9 l10 = some r → RunC Try.prog Try.f10 erasurelaw30_CacheForgets.p1.t (erasurelaw30_CacheForgets.p1.s s1 n11 i12 u9 l10) (.p (.bool r)) []) : ∀ (k : Nat) (s1 : (List TCached)) (n11 : Int) (i12 : Int) (has13 : Bool) (k14 : Int) (u9 : (List TCached)) (l10 : (List TValue)) (r : Bool), erasurelaw30_CacheForgets.p2 rec1 k s1 n11 i12 has13 k14 u9 l10 = some r → RunC Try.prog Try.f10 erasurelaw30_CacheForgets.p2.t (erasurelaw30_CacheForgets.p2.s s1 n11 i12 has13 k14 u9 l10) (.p (.bool r)) [] := by
  intro k
  induction k with
  | zero => intro s1 n11 i12 has13 k14 u9 l10 r h; simp [erasurelaw30_CacheForgets.p2] at h
  | succ k ih =>
    intro s1 n11 i12 has13 k14 u9 l10 r h
    rw [erasurelaw30_CacheForgets.p2] at h
    rcases ite_or h with ⟨g_32, h⟩ | ⟨g_32, h⟩
    · rcases ite_or h with ⟨g_33, h⟩ | ⟨g_33, h⟩
      · exact RunC.go [.n 2, .r [(3, .dec true)], .n 4, .r [(1, .dec true)], .n 3, .k [1, 9, 10, 11, 12, 13, 14]] (by kernel_rfl) (Obs.of (by kernel_rfl) (And.intro g_32 g_33)) (ih _ _ _ _ _ _ _ r h)
      · obtain ⟨g_34, h⟩ := ite_some h
        obtain ⟨g_35, h⟩ := ite_some h
        exact RunC.go [.n 2, .r [(3, .dec true)], .n 4, .r [(1, .dec false)], .n 3, .k [1, 9, 10, 11, 12, 13, 14]] (by kernel_rfl) (Obs.of (by kernel_rfl) (And.intro g_32 (And.intro (nt g_33) (And.intro g_34 g_35)))) (ih _ _ _ _ _ _ _ r h)
    · rcases ite_or h with ⟨g_36, h⟩ | ⟨g_36, h⟩
      · exact RunC.go [.n 2, .r [(3, .dec false)], .n 4, .r [(1, .dec true)], .n 4, .k [1, 9, 10, 11, 12]] (by kernel_rfl) (Obs.of (by kernel_rfl) (And.intro (nt g_32) g_36)) (hrec1 _ _ _ _ _ r h)
      · rcases ite_or h with ⟨g_37, h⟩ | ⟨g_37, h⟩
        · obtain rfl := Option.some.inj h
          exact RunC.out [.n 2, .r [(3, .dec false)], .n 4, .r [(1, .dec false)], .n 4, .r [(4, .dec true)], .n 3] (by kernel_rfl) (Obs.of (by kernel_rfl) (And.intro (nt g_32) (And.intro (nt g_36) g_37)))
        · obtain ⟨g_38, h⟩ := ite_some h
          obtain ⟨g_39, h⟩ := ite_some h
          rcases ite_or h with ⟨g_40, h⟩ | ⟨g_40, h⟩
          · obtain rfl := Option.some.inj h
            exact RunC.out [.n 2, .r [(3, .dec false)], .n 4, .r [(1, .dec false)], .n 4, .r [(4, .dec false), (17, .dec true)], .n 3] (by kernel_rfl) (Obs.of (by kernel_rfl) (And.intro (nt g_32) (And.intro (nt g_36) (And.intro (nt g_37) (And.intro g_38 (And.intro g_39 g_40))))))
          · rcases ite_or h with ⟨g_41, h⟩ | ⟨g_41, h⟩
            · obtain rfl := Option.some.inj h
              exact RunC.out [.n 2, .r [(3, .dec false)], .n 4, .r [(1, .dec false)], .n 4, .r [(4, .dec false), (17, .dec false), (25, .dec true)], .n 3] (by kernel_rfl) (Obs.of (by kernel_rfl) (And.intro (nt g_32) (And.intro (nt g_36) (And.intro (nt g_37) (And.intro g_38 (And.intro g_39 (And.intro (nt g_40) (And.intro g_38 g_41))))))))
            · rcases ite_or h with ⟨g_42, h⟩ | ⟨g_42, h⟩
              · obtain rfl := Option.some.inj h
                exact RunC.out [.n 2, .r [(3, .dec false)], .n 4, .r [(1, .dec false)], .n 4, .r [(4, .dec false), (17, .dec false), (25, .dec false), (33, .dec true)], .n 3] (by kernel_rfl) (Obs.of (by kernel_rfl) (And.intro (nt g_32) (And.intro (nt g_36) (And.intro (nt g_37) (And.intro g_38 (And.intro g_39 (And.intro (nt g_40) (And.intro g_38 (And.intro (nt g_41) (And.intro g_38 g_42))))))))))
              · exact RunC.go [.n 2, .r [(3, .dec false)], .n 4, .r [(1, .dec false)], .n 4, .r [(4, .dec false), (17, .dec false), (25, .dec false), (33, .dec false)], .n 6, .k [1, 9, 10, 11, 12]] (by kernel_rfl) (Obs.of (by kernel_rfl) (And.intro (nt g_32) (And.intro (nt g_36) (And.intro (nt g_37) (And.intro g_38 (And.intro g_39 (And.intro (nt g_40) (And.intro g_38 (And.intro (nt g_41) (And.intro g_38 (nt g_42))))))))))) (hrec1 _ _ _ _ _ r h)
theorem erasurelaw30_CacheForgets.p1.run   : ∀ (k : Nat) (s1 : (List TCached)) (n11 : Int) (i12 : Int) (u9 : (List TCached)) (l10 : (List TValue)) (r : Bool), erasurelaw30_CacheForgets.p1 k s1 n11 i12 u9 l10 = some r → RunC Try.prog Try.f10 erasurelaw30_CacheForgets.p1.t (erasurelaw30_CacheForgets.p1.s s1 n11 i12 u9 l10) (.p (.bool r)) [] := by
  intro k
  induction k with
  | zero => intro s1 n11 i12 u9 l10 r h; simp [erasurelaw30_CacheForgets.p1] at h
  | succ k ih =>
    intro s1 n11 i12 u9 l10 r h
    rw [erasurelaw30_CacheForgets.p1] at h
    rcases ite_or h with ⟨g_31, h⟩ | ⟨g_31, h⟩
    · exact RunC.go [.n 2, .r [(3, .dec true)], .n 11, .k [1, 9, 10, 11, 12, 13, 14]] (by kernel_rfl) (Obs.of (by kernel_rfl) g_31) (erasurelaw30_CacheForgets.p2.run ih k _ _ _ _ _ _ _ r h)
    · rcases ite_or h with ⟨g_43, h⟩ | ⟨g_43, h⟩
      · obtain ⟨y_44, e_45, h⟩ := bind_or h
        obtain rfl := Option.some.inj h
        exact RunC.out [.n 2, .r [(3, .dec false)], .n 3, .r [(4, .dec true), (5, .call (.p (.bool y_44)) [])]] (by kernel_rfl) (Obs.of (by kernel_rfl) (And.intro (nt g_31) (And.intro g_43 (erasurelaw30_awake.spec e_45))))
      · obtain rfl := Option.some.inj h
        exact RunC.out [.n 2, .r [(3, .dec false)], .n 3, .r [(4, .dec false)]] (by kernel_rfl) (Obs.of (by kernel_rfl) (And.intro (nt g_31) (nt g_43)))
theorem erasurelaw30_CacheForgets.run   {k : Nat} {c0 : TCache} {s1 : (List TCached)} {rows2 : (List TEntry)} {r : Bool} (h : erasurelaw30_CacheForgets k c0 s1 rows2 = some r) : RunC Try.prog Try.f10 erasurelaw30_CacheForgets.t (erasurelaw30_CacheForgets.s c0 s1 rows2) (.p (.bool r)) [] := by
  unfold erasurelaw30_CacheForgets at h
  obtain ⟨y_1, e_2, h⟩ := bind_or h
  rcases ite_or h with ⟨g_3, h⟩ | ⟨g_3, h⟩
  · obtain ⟨y_4, e_5, h⟩ := bind_or h
    obtain rfl := Option.some.inj h
    exact RunC.out [.n 4, .r [(1, .call (.p (.bool y_1)) []), (3, .dec true)], .n 2, .r [(0, .call (.p (.bool y_4)) [])]] (by kernel_rfl) (Obs.of (by kernel_rfl) (And.intro (erasurelaw30_small.spec e_2) (And.intro g_3 (erasurelaw30_awake.spec e_5))))
  · obtain ⟨y_6, e_7, h⟩ := bind_or h
    rcases ite_or h with ⟨g_8, h⟩ | ⟨g_8, h⟩
    · obtain ⟨y_9, e_10, h⟩ := bind_or h
      obtain rfl := Option.some.inj h
      exact RunC.out [.n 4, .r [(1, .call (.p (.bool y_1)) []), (3, .dec false), (5, .call (.p (.bool y_6)) []), (8, .dec true)], .n 2, .r [(0, .call (.p (.bool y_9)) [])]] (by kernel_rfl) (Obs.of (by kernel_rfl) (And.intro (erasurelaw30_small.spec e_2) (And.intro (nt g_3) (And.intro (erasurelaw30_short.spec e_7) (And.intro g_8 (erasurelaw30_awake.spec e_10))))))
    · rcases ite_or h with ⟨g_11, h⟩ | ⟨g_11, h⟩
      · obtain ⟨y_12, e_13, h⟩ := bind_or h
        obtain rfl := Option.some.inj h
        exact RunC.out [.n 4, .r [(1, .call (.p (.bool y_1)) []), (3, .dec false), (5, .call (.p (.bool y_6)) []), (8, .dec false), (13, .dec true)], .n 2, .r [(0, .call (.p (.bool y_12)) [])]] (by kernel_rfl) (Obs.of (by kernel_rfl) (And.intro (erasurelaw30_small.spec e_2) (And.intro (nt g_3) (And.intro (erasurelaw30_short.spec e_7) (And.intro (nt g_8) (And.intro g_11 (erasurelaw30_awake.spec e_13)))))))
      · rcases ite_or h with ⟨g_14, h⟩ | ⟨g_14, h⟩
        · obtain ⟨y_15, e_16, h⟩ := bind_or h
          obtain rfl := Option.some.inj h
          exact RunC.out [.n 4, .r [(1, .call (.p (.bool y_1)) []), (3, .dec false), (5, .call (.p (.bool y_6)) []), (8, .dec false), (13, .dec false), (17, .dec true)], .n 2, .r [(0, .call (.p (.bool y_15)) [])]] (by kernel_rfl) (Obs.of (by kernel_rfl) (And.intro (erasurelaw30_small.spec e_2) (And.intro (nt g_3) (And.intro (erasurelaw30_short.spec e_7) (And.intro (nt g_8) (And.intro (nt g_11) (And.intro g_14 (erasurelaw30_awake.spec e_16))))))))
        · obtain ⟨y_17, e_18, h⟩ := bind_or h
          rcases ite_or h with ⟨g_19, h⟩ | ⟨g_19, h⟩
          · obtain ⟨y_20, e_21, h⟩ := bind_or h
            obtain rfl := Option.some.inj h
            exact RunC.out [.n 4, .r [(1, .call (.p (.bool y_1)) []), (3, .dec false), (5, .call (.p (.bool y_6)) []), (8, .dec false), (13, .dec false), (17, .dec false)], .n 3, .r [(1, .call (.tup [.p (eL 2 cEntry dEntry y_17.1), .p (.int .i64 y_17.2)]) [])], .n 2, .r [(2, .dec true)], .n 2, .r [(0, .call (.p (.bool y_20)) [])]] (by kernel_rfl) (Obs.of (by kernel_rfl) (And.intro (erasurelaw30_small.spec e_2) (And.intro (nt g_3) (And.intro (erasurelaw30_short.spec e_7) (And.intro (nt g_8) (And.intro (nt g_11) (And.intro (nt g_14) (And.intro (erasureref06_Normalize.spec e_18) (And.intro g_19 (erasurelaw30_awake.spec e_21))))))))))
          · obtain ⟨y_22, e_23, h⟩ := bind_or h
            rcases ite_or h with ⟨g_24, h⟩ | ⟨g_24, h⟩
            · obtain ⟨y_25, e_26, h⟩ := bind_or h
              obtain rfl := Option.some.inj h
              exact RunC.out [.n 4, .r [(1, .call (.p (.bool y_1)) []), (3, .dec false), (5, .call (.p (.bool y_6)) []), (8, .dec false), (13, .dec false), (17, .dec false)], .n 3, .r [(1, .call (.tup [.p (eL 2 cEntry dEntry y_17.1), .p (.int .i64 y_17.2)]) [])], .n 2, .r [(2, .dec false), (4, .call (.p (.bool y_22)) []), (6, .dec true)], .n 2, .r [(0, .call (.p (.bool y_25)) [])]] (by kernel_rfl) (Obs.of (by kernel_rfl) (And.intro (erasurelaw30_small.spec e_2) (And.intro (nt g_3) (And.intro (erasurelaw30_short.spec e_7) (And.intro (nt g_8) (And.intro (nt g_11) (And.intro (nt g_14) (And.intro (erasureref06_Normalize.spec e_18) (And.intro (nt g_19) (And.intro (erasureref30_Valid.spec e_23) (And.intro g_24 (erasurelaw30_awake.spec e_26))))))))))))
            · obtain ⟨y_27, e_28, h⟩ := bind_or h
              obtain ⟨y_29, e_30, h⟩ := bind_or h
              exact RunC.go [.n 4, .r [(1, .call (.p (.bool y_1)) []), (3, .dec false), (5, .call (.p (.bool y_6)) []), (8, .dec false), (13, .dec false), (17, .dec false)], .n 3, .r [(1, .call (.tup [.p (eL 2 cEntry dEntry y_17.1), .p (.int .i64 y_17.2)]) [])], .n 2, .r [(2, .dec false), (4, .call (.p (.bool y_22)) []), (6, .dec false)], .n 3, .r [(3, .call (.sref 0 46 5 (y_27).length) [(oL true 46 5 cCached dCached y_27)])], .n 1, .r [(3, .callL [.p (eL 2 cEntry dEntry y_17.1), .p (eL 2 cEntry dEntry ([] : List TEntry)), .p (.int .i64 c0.f2)] (.sref 0 24 3 (y_29).length) [(oL true 24 3 cValue dValue y_29)])], .n 7, .k [1, 9, 10, 11, 12]] (by kernel_rfl) (Obs.of (by kernel_rfl) (And.intro (erasurelaw30_small.spec e_2) (And.intro (nt g_3) (And.intro (erasurelaw30_short.spec e_7) (And.intro (nt g_8) (And.intro (nt g_11) (And.intro (nt g_14) (And.intro (erasureref06_Normalize.spec e_18) (And.intro (nt g_19) (And.intro (erasureref30_Valid.spec e_23) (And.intro (nt g_24) (And.intro (cache_Refill.spec e_28) (And.intro (fls_cons (fle_rfl (.p (eL 2 cEntry dEntry y_17.1))) (fls_cons (fle_nil 2 cEntry dEntry) (fls_cons (fle_rfl (.p (.int .i64 c0.f2))) fls_nil))) (cache_Touched.spec e_30)))))))))))))) (erasurelaw30_CacheForgets.p1.run k _ _ _ _ _ r h)
theorem erasurelaw30_CacheForgets.p2.mono {rec1 rec1' : (List TCached) → Int → Int → (List TCached) → (List TValue) → Option Bool} (hm1 : ∀ (s1 : (List TCached)) (n11 : Int) (i12 : Int) (u9 : (List TCached)) (l10 : (List TValue)) r, rec1 s1 n11 i12 u9 l10 = some r → rec1' s1 n11 i12 u9 l10 = some r) : ∀ (k k' : Nat) (s1 : (List TCached)) (n11 : Int) (i12 : Int) (has13 : Bool) (k14 : Int) (u9 : (List TCached)) (l10 : (List TValue)) (r : Bool), k ≤ k' → erasurelaw30_CacheForgets.p2 rec1 k s1 n11 i12 has13 k14 u9 l10 = some r → erasurelaw30_CacheForgets.p2 rec1' k' s1 n11 i12 has13 k14 u9 l10 = some r := by
  intro k
  induction k with
  | zero => intro k' s1 n11 i12 has13 k14 u9 l10 r hk h; simp [erasurelaw30_CacheForgets.p2] at h
  | succ k ih =>
    intro k' s1 n11 i12 has13 k14 u9 l10 r hk h
    obtain ⟨k', rfl⟩ : ∃ m, k' = m + 1 := ⟨k' - 1, by omega⟩
    replace hk := Nat.le_of_succ_le_succ hk
    rw [erasurelaw30_CacheForgets.p2] at h ⊢
    rcases ite_or h with ⟨g_32, h⟩ | ⟨g_32, h⟩
    · refine itp g_32 ?_
      rcases ite_or h with ⟨g_33, h⟩ | ⟨g_33, h⟩
      · refine itp g_33 ?_
        exact ih _ _ _ _ _ _ _ _ r hk h
      · refine itn g_33 ?_
        obtain ⟨g_34, h⟩ := ite_some h
        refine itp g_34 ?_
        obtain ⟨g_35, h⟩ := ite_some h
        refine itp g_35 ?_
        exact ih _ _ _ _ _ _ _ _ r hk h
    · refine itn g_32 ?_
      rcases ite_or h with ⟨g_36, h⟩ | ⟨g_36, h⟩
      · refine itp g_36 ?_
        exact hm1 _ _ _ _ _ r h
      · refine itn g_36 ?_
        rcases ite_or h with ⟨g_37, h⟩ | ⟨g_37, h⟩
        · refine itp g_37 ?_
          exact h
        · refine itn g_37 ?_
          obtain ⟨g_38, h⟩ := ite_some h
          refine itp g_38 ?_
          obtain ⟨g_39, h⟩ := ite_some h
          refine itp g_39 ?_
          rcases ite_or h with ⟨g_40, h⟩ | ⟨g_40, h⟩
          · refine itp g_40 ?_
            exact h
          · refine itn g_40 ?_
            rcases ite_or h with ⟨g_41, h⟩ | ⟨g_41, h⟩
            · refine itp g_41 ?_
              exact h
            · refine itn g_41 ?_
              rcases ite_or h with ⟨g_42, h⟩ | ⟨g_42, h⟩
              · refine itp g_42 ?_
                exact h
              · refine itn g_42 ?_
                exact hm1 _ _ _ _ _ r h
theorem erasurelaw30_CacheForgets.p1.mono   : ∀ (k k' : Nat) (s1 : (List TCached)) (n11 : Int) (i12 : Int) (u9 : (List TCached)) (l10 : (List TValue)) (r : Bool), k ≤ k' → erasurelaw30_CacheForgets.p1 k s1 n11 i12 u9 l10 = some r → erasurelaw30_CacheForgets.p1 k' s1 n11 i12 u9 l10 = some r := by
  intro k
  induction k with
  | zero => intro k' s1 n11 i12 u9 l10 r hk h; simp [erasurelaw30_CacheForgets.p1] at h
  | succ k ih =>
    intro k' s1 n11 i12 u9 l10 r hk h
    obtain ⟨k', rfl⟩ : ∃ m, k' = m + 1 := ⟨k' - 1, by omega⟩
    replace hk := Nat.le_of_succ_le_succ hk
    rw [erasurelaw30_CacheForgets.p1] at h ⊢
    rcases ite_or h with ⟨g_31, h⟩ | ⟨g_31, h⟩
    · refine itp g_31 ?_
      exact erasurelaw30_CacheForgets.p2.mono (fun x0 x1 x2 x3 x4 r h => ih _ x0 x1 x2 x3 x4 r hk h) _ _ _ _ _ _ _ _ _ r hk h
    · refine itn g_31 ?_
      rcases ite_or h with ⟨g_43, h⟩ | ⟨g_43, h⟩
      · refine itp g_43 ?_
        obtain ⟨y_44, e_45, h⟩ := bind_or h
        refine bnd (erasurelaw30_awake.mono _ _  _ hk e_45) ?_
        exact h
      · refine itn g_43 ?_
        exact h
theorem erasurelaw30_CacheForgets.mono   : ∀ (k k' : Nat) (c0 : TCache) (s1 : (List TCached)) (rows2 : (List TEntry)) (r : Bool), k ≤ k' → erasurelaw30_CacheForgets k c0 s1 rows2 = some r → erasurelaw30_CacheForgets k' c0 s1 rows2 = some r := by
  intro k k' c0 s1 rows2 r hk h
  unfold erasurelaw30_CacheForgets at h ⊢
  obtain ⟨y_1, e_2, h⟩ := bind_or h
  refine bnd (erasurelaw30_small.mono _ _ _ _ hk e_2) ?_
  rcases ite_or h with ⟨g_3, h⟩ | ⟨g_3, h⟩
  · refine itp g_3 ?_
    obtain ⟨y_4, e_5, h⟩ := bind_or h
    refine bnd (erasurelaw30_awake.mono _ _  _ hk e_5) ?_
    exact h
  · refine itn g_3 ?_
    obtain ⟨y_6, e_7, h⟩ := bind_or h
    refine bnd (erasurelaw30_short.mono _ _ _ _ hk e_7) ?_
    rcases ite_or h with ⟨g_8, h⟩ | ⟨g_8, h⟩
    · refine itp g_8 ?_
      obtain ⟨y_9, e_10, h⟩ := bind_or h
      refine bnd (erasurelaw30_awake.mono _ _  _ hk e_10) ?_
      exact h
    · refine itn g_8 ?_
      rcases ite_or h with ⟨g_11, h⟩ | ⟨g_11, h⟩
      · refine itp g_11 ?_
        obtain ⟨y_12, e_13, h⟩ := bind_or h
        refine bnd (erasurelaw30_awake.mono _ _  _ hk e_13) ?_
        exact h
      · refine itn g_11 ?_
        rcases ite_or h with ⟨g_14, h⟩ | ⟨g_14, h⟩
        · refine itp g_14 ?_
          obtain ⟨y_15, e_16, h⟩ := bind_or h
          refine bnd (erasurelaw30_awake.mono _ _  _ hk e_16) ?_
          exact h
        · refine itn g_14 ?_
          obtain ⟨y_17, e_18, h⟩ := bind_or h
          refine bnd (erasureref06_Normalize.mono _ _ _ _ hk e_18) ?_
          rcases ite_or h with ⟨g_19, h⟩ | ⟨g_19, h⟩
          · refine itp g_19 ?_
            obtain ⟨y_20, e_21, h⟩ := bind_or h
            refine bnd (erasurelaw30_awake.mono _ _  _ hk e_21) ?_
            exact h
          · refine itn g_19 ?_
            obtain ⟨y_22, e_23, h⟩ := bind_or h
            refine bnd (erasureref30_Valid.mono _ _ _ _ hk e_23) ?_
            rcases ite_or h with ⟨g_24, h⟩ | ⟨g_24, h⟩
            · refine itp g_24 ?_
              obtain ⟨y_25, e_26, h⟩ := bind_or h
              refine bnd (erasurelaw30_awake.mono _ _  _ hk e_26) ?_
              exact h
            · refine itn g_24 ?_
              obtain ⟨y_27, e_28, h⟩ := bind_or h
              refine bnd (cache_Refill.mono _ _ _ _ _ _ _ hk e_28) ?_
              obtain ⟨y_29, e_30, h⟩ := bind_or h
              refine bnd (cache_Touched.mono _ _ _ _ _ _ hk e_30) ?_
              exact erasurelaw30_CacheForgets.p1.mono _ _ _ _ _ _ _ r hk h
theorem erasurelaw30_CacheForgets.spec {k : Nat} {c0 : TCache} {s1 : (List TCached)} {rows2 : (List TEntry)} {r : Bool} (h : erasurelaw30_CacheForgets k c0 s1 rows2 = some r) : Spec Try.prog 10 [.agg ((cCache c0).map .p), .p (eL 5 cCached dCached s1), .p (eL 2 cEntry dEntry rows2)] (.p (.bool r)) [] :=
  spec_of mix Try.func10 (body := bodyOf Try.f10) (by kernel_rfl) (by kernel_rfl) (erasurelaw30_CacheForgets.run h)
end Go.Proofs.YtjhnpaenhdbhpabV
set_option linter.unusedVariables false
set_option linter.unusedSimpArgs false
namespace Go.Proofs.YtjhnpaenhdbhpabV
open Go Go.RowKit
def Ev {α : Type} (g : Nat → Option α) (r : α) : Prop := ∃ K, ∀ k, K ≤ k → g k = some r
theorem Ev.now {α : Type} (r : α) : Ev (fun _ => some r) r := ⟨0, fun _ _ => rfl⟩
theorem Ev.any {α : Type} {g : Nat → Option α} {r : α} (h : ∀ k, g k = some r) : Ev g r := ⟨0, fun k _ => h k⟩
theorem Ev.done {α : Type} {a r : α} (h : a = r) : Ev (fun _ => some a) r := by subst h; exact Ev.now _
theorem Ev.bind {α β : Type} {f : Nat → Option α} {g : Nat → α → Option β} {a : α} {r : β} (h : Ev f a) (h' : Ev (fun k => g k a) r) : Ev (fun k => (f k).bind (g k)) r := by
  obtain ⟨K, h⟩ := h; obtain ⟨L, h'⟩ := h'
  exact ⟨max K L, fun k hk => by show (f k).bind (g k) = some r; rw [h k (by omega)]; exact h' k (by omega)⟩
theorem Ev.succ {α : Type} {g : Nat → Option α} {r : α} (h : Ev (fun k => g (k + 1)) r) : Ev g r := by
  obtain ⟨K, h⟩ := h
  exact ⟨K + 1, fun k hk => by obtain ⟨m, rfl⟩ : ∃ m, k = m + 1 := ⟨k - 1, by omega⟩; exact h m (by omega)⟩
theorem Ev.congr {α : Type} {f g : Nat → Option α} {r : α} (h : ∀ k, g k = f k) (k : Ev f r) : Ev g r := by rw [show g = f from funext h]; exact k
theorem Ev.ite_pos {α : Type} {g f : Nat → Option α} {r : α} {c : Prop} [Decidable c] (h : c) (k : Ev g r) : Ev (fun n => if c then g n else f n) r := Ev.congr (fun n => if_pos h) k
theorem Ev.ite_neg {α : Type} {g f : Nat → Option α} {r : α} {c : Prop} [Decidable c] (h : ¬ c) (k : Ev f r) : Ev (fun n => if c then g n else f n) r := Ev.congr (fun n => if_neg h) k
theorem Ev.of {α : Type} {g : Nat → Option α} {r : α} (m : ∀ k k', k ≤ k' → g k = some r → g k' = some r) {k : Nat} (h : g k = some r) : Ev g r := ⟨k, fun k' hk => m k k' hk h⟩
theorem Ev.some {α : Type} {g : Nat → Option α} {r : α} (h : Ev g r) : ∃ k, g k = Option.some r := by obtain ⟨K, h⟩ := h; exact ⟨K, h K (Nat.le_refl _)⟩
theorem Ev.to {α : Type} {g : Nat → Option α} {r s : α} (h : Ev g r) (e : r = s) : Ev g s := by subst e; exact h
theorem bytes_ext {a b : ByteArray} (h : a.data.toList = b.data.toList) : a = b := by
  cases a; cases b; congr 1; exact Array.toList_inj.1 h
theorem bytes_beq (a b : ByteArray) : (a.data.toList == b.data.toList) = decide (a = b) := by
  rw [Bool.eq_iff_iff, beq_iff_eq, decide_eq_true_eq]; exact ⟨bytes_ext, fun h => by rw [h]⟩
theorem loop_down {P : Nat → Prop} (n : Nat) (hend : P n) (hstep : ∀ i, i < n → P (i + 1) → P i) : ∀ i, i ≤ n → P i := by
  intro i hi
  have key : ∀ d i, i + d = n → P i := by
    intro d
    induction d with
    | zero => intro i h; have : i = n := by omega
              rw [this]; exact hend
    | succ d ih => intro i h; exact hstep i (by omega) (ih (i + 1) (by omega))
  exact key (n - i) i (by omega)
theorem wr {n : Int} (h : -9223372036854775808 ≤ n ∧ n ≤ 9223372036854775807) : IntKind.i64.wrap n = n := by rw [IntKind.wrap_i64]; omega
theorem wrn {i n : Nat} (h : i < n) (hn : n ≤ 9223372036854775807) : IntKind.i64.wrap ((i : Int) + 1) = ((i + 1 : Nat) : Int) := by rw [wr (by omega)]; omega
theorem wrp {i : Nat} (h : 0 < i) (hn : i ≤ 9223372036854775807) : IntKind.i64.wrap ((i : Int) - 1) = ((i - 1 : Nat) : Int) := by rw [wr (by omega)]; omega
theorem drop_cons {α : Type} (z : α) {l : List α} {i : Nat} (h : i < l.length) : l.drop i = l.getD (i : Int).toNat z :: l.drop (i + 1) := by
  rw [List.drop_eq_getElem_cons h]; simp [h]
theorem getD_mem {α : Type} (z : α) {l : List α} {i : Nat} (h : i < l.length) : l.getD (i : Int).toNat z ∈ l := by simp [h]
end Go.Proofs.YtjhnpaenhdbhpabV
set_option linter.unusedVariables false
set_option linter.unusedSimpArgs false
namespace Go.Proofs.YtjhnpaenhdbhpabV
open Go Go.RowKit
theorem V_ext {x y : TValue} (h0 : x.f0 = y.f0) (h1 : x.f1 = y.f1) (h2 : x.f2 = y.f2) : x = y := by cases x; cases y; simp_all
instance : DecidableEq TValue := fun x y => decidable_of_iff (x.f0 = y.f0 ∧ x.f1 = y.f1 ∧ x.f2 = y.f2) ⟨fun h => V_ext h.1 h.2.1 h.2.2, fun h => by subst h; exact ⟨rfl, rfl, rfl⟩⟩
def okV (x : TValue) : Bool :=
  if x.f0 = 0 then decide (x.f1 = 0) && decide (x.f2 = (⟨#[]⟩ : ByteArray))
  else if x.f0 = 1 then decide (-4294967296 ≤ x.f1 ∧ x.f1 ≤ 4294967296) && decide (x.f2 = (⟨#[]⟩ : ByteArray))
  else if x.f0 = 2 then decide (x.f1 = 0) && decide (x.f2.size ≤ 32)
  else false
def clV (x : TValue) : TValue := if okV x then x else ⟨0, 0, ⟨#[]⟩⟩
theorem beq_empty (a : ByteArray) : (a.data.toList == (#[] : Array UInt8).toList) = decide (a = (⟨#[]⟩ : ByteArray)) := bytes_beq a ⟨#[]⟩
theorem beq_nil (a : ByteArray) : (a.data.toList == ([] : List UInt8)) = decide (a = (⟨#[]⟩ : ByteArray)) := bytes_beq a ⟨#[]⟩
theorem value_Valid_eq (k : Nat) (v : TValue) : value_Valid k v = some (okV v) := by
  unfold value_Valid value_inRange okV
  simp only [beq_empty, beq_nil, beq_iff_eq, decide_eq_true_eq]
  generalize decide (v.f2 = (⟨#[]⟩ : ByteArray)) = q
  by_cases h0 : v.f0 = 0
  · simp only [if_pos h0]
    by_cases h1 : v.f1 = 0 <;> simp [h1]
  · simp only [if_neg h0]
    by_cases h1 : v.f0 = 1
    · simp only [if_pos h1]
      by_cases h2 : v.f1 ≥ -4294967296
      · rw [if_pos h2]; simp only [Option.bind_some, decide_eq_true_eq]
        by_cases h3 : v.f1 ≤ 4294967296
        · rw [if_pos h3]; simp [h3]; omega
        · rw [if_neg h3]; simp [h3]
      · rw [if_neg h2]; simp; omega
    · simp only [if_neg h1]
      by_cases h2 : v.f0 = 2
      · simp only [if_pos h2]
        by_cases h3 : v.f1 = 0
        · simp [h3]; omega
        · simp [h3]
      · simp [h2]
theorem ref01_Valid_eq (k : Nat) (v : TValue) : erasureref01_Valid k v = some (okV v) := by
  rw [← value_Valid_eq k]
  unfold erasureref01_Valid value_Valid value_inRange
  by_cases h0 : (v.f0 == 0) = true
  · simp only [if_pos h0]
  · simp only [if_neg h0]
    by_cases h1 : (v.f0 == 1) = true
    · simp only [if_pos h1]
      by_cases h2 : decide (v.f1 ≥ -4294967296) = true
      · simp only [if_pos h2, Option.bind_some]
      · simp only [if_neg h2, Option.bind_some, Bool.false_eq_true, if_false]
    · simp only [if_neg h1]
theorem value_Clean_eq (k : Nat) (x : TValue) : value_Clean k x = some (clV x) := by
  unfold value_Clean clV value_Clean.p1 value_Clean.p2
  rw [value_Valid_eq, Option.bind_some]
  by_cases h : okV x = true
  · rw [if_pos h, if_pos h]
  · rw [if_neg h, if_neg h]
theorem ref01_Clean_eq (k : Nat) (x : TValue) : erasureref01_Clean k x = some (clV x) := by
  unfold erasureref01_Clean clV erasureref01_Clean.p1 erasureref01_Clean.p2
  rw [ref01_Valid_eq, Option.bind_some]
  by_cases h : okV x = true
  · rw [if_pos h, if_pos h]
  · rw [if_neg h, if_neg h]
theorem eqV_iff (x y : TValue) : ((x.f0 == y.f0) && ((x.f1 == y.f1) && ((x.f2.data.toList == y.f2.data.toList) && true))) = decide (x = y) := by
  rw [bytes_beq, Bool.eq_iff_iff]
  simp only [Bool.and_eq_true, beq_iff_eq, decide_eq_true_eq, and_true]
  exact ⟨fun h => V_ext h.1 h.2.1 h.2.2, fun h => by subst h; exact ⟨rfl, rfl, rfl⟩⟩
theorem dV {l : List TValue} {i : Nat} (h : i < l.length) : l.drop i = l.getD (i : Int).toNat dValue :: l.drop (i + 1) := drop_cons _ h
theorem dE {l : List TEntry} {i : Nat} (h : i < l.length) : l.drop i = l.getD (i : Int).toNat dEntry :: l.drop (i + 1) := drop_cons _ h
end Go.Proofs.YtjhnpaenhdbhpabV
set_option linter.unusedVariables false
set_option linter.unusedSimpArgs false
namespace Go.Proofs.YtjhnpaenhdbhpabV
open Go Go.RowKit
theorem bytesLess_eq : ∀ (x y : List UInt8), Op.bytesLess x y = decide (x < y)
  | [], [] => by simp [Op.bytesLess]
  | _ :: _, [] => by simp [Op.bytesLess]
  | [], _ :: _ => by simp [Op.bytesLess]
  | a :: x, b :: y => by
    rw [Op.bytesLess, bytesLess_eq x y]
    simp only [List.cons_lt_cons_iff]
    by_cases h1 : a < b <;> by_cases h2 : a = b <;> by_cases h3 : x < y <;> simp [h1, h2, h3]
theorem gtr_flip (a b : List UInt8) : (!(Op.bytesLess a b || a == b)) = Op.bytesLess b a := by
  rw [bytesLess_eq, bytesLess_eq, Bool.eq_iff_iff]
  simp only [Bool.not_eq_true', Bool.or_eq_false_iff, decide_eq_false_iff_not, beq_eq_false_iff_ne, decide_eq_true_eq]
  constructor
  · rintro ⟨h1, h2⟩
    rcases Std.lt_trichotomy a b with h | h | h
    · exact absurd h h1
    · exact absurd h h2
    · exact h
  · intro h
    exact ⟨fun h1 => (List.lt_asymm h h1), fun h1 => by subst h1; exact List.lt_irrefl _ h⟩
theorem okV_z : okV (⟨0, 0, ⟨#[]⟩⟩ : TValue) = true := by decide +kernel
theorem okV_cl (x : TValue) : okV (clV x) = true := by
  unfold clV
  by_cases h : okV x = true
  · rw [if_pos h]; exact h
  · rw [if_neg h]; exact okV_z
theorem clV_ok {x : TValue} (h : okV x = true) : clV x = x := if_pos h
def cmpI (a b : Int) : Int := if a < b then -1 else if b < a then 1 else 0
def cmpB (a b : ByteArray) : Int := if a.data.toList < b.data.toList then -1 else if b.data.toList < a.data.toList then 1 else 0
def cmpC (a b : TValue) : Int := if a.f0 ≠ b.f0 then cmpI a.f0 b.f0 else if a.f0 = 1 then cmpI a.f1 b.f1 else cmpB a.f2 b.f2
def cmpV (x y : TValue) : Int := cmpC (clV x) (clV y)
theorem cmp_int_eq (k : Nat) (a b : Int) : cmp_Compare_int k a b = some (cmpI a b) := by
  unfold cmp_Compare_int cmp_isNaN_int cmpI
  simp only [Option.bind_some, bne_self_eq_false, Bool.false_eq_true, if_false, GT.gt, decide_eq_true_eq]
  repeat' split
  all_goals rfl
theorem cmp_int64_eq (k : Nat) (a b : Int) : cmp_Compare_int64 k a b = some (cmpI a b) := by
  unfold cmp_Compare_int64 cmp_isNaN_int64 cmpI
  simp only [Option.bind_some, bne_self_eq_false, Bool.false_eq_true, if_false, GT.gt, decide_eq_true_eq]
  repeat' split
  all_goals rfl
theorem cmp_string_eq (k : Nat) (a b : ByteArray) : cmp_Compare_string k a b = some (cmpB a b) := by
  unfold cmp_Compare_string cmp_isNaN_string cmpB
  simp only [gtr_flip]
  simp only [Option.bind_some, beq_self_eq_true, Bool.not_true, Bool.false_eq_true, if_false, bytesLess_eq, decide_eq_true_eq]
  repeat' split
  all_goals rfl
theorem value_Compare_eq (k : Nat) (x y : TValue) : value_Compare k x y = some (cmpV x y) := by
  unfold value_Compare cmpV cmpC
  rw [value_Clean_eq, value_Clean_eq]
  simp only [Option.bind_some, cmp_int_eq, cmp_int64_eq, cmp_string_eq, bne_iff_ne, beq_iff_eq]
  repeat' split
  all_goals rfl
theorem ok_cases {x : TValue} (h : okV x = true) : (x.f0 = 0 ∧ x.f1 = 0 ∧ x.f2 = (⟨#[]⟩ : ByteArray)) ∨ (x.f0 = 1 ∧ x.f2 = (⟨#[]⟩ : ByteArray)) ∨ (x.f0 = 2 ∧ x.f1 = 0) := by
  unfold okV at h
  by_cases h0 : x.f0 = 0
  · rw [if_pos h0] at h; simp at h; exact .inl ⟨h0, h.1, h.2⟩
  · rw [if_neg h0] at h
    by_cases h1 : x.f0 = 1
    · rw [if_pos h1] at h; simp at h; exact .inr (.inl ⟨h1, h.2⟩)
    · rw [if_neg h1] at h
      by_cases h2 : x.f0 = 2
      · rw [if_pos h2] at h; simp at h; exact .inr (.inr ⟨h2, h.1⟩)
      · rw [if_neg h2] at h; cases h
theorem cmpI_zero {a b : Int} : cmpI a b = 0 ↔ a = b := by unfold cmpI; split <;> (try split) <;> omega
theorem cmpI_neg {a b : Int} : cmpI a b < 0 ↔ a < b := by unfold cmpI; split <;> (try split) <;> omega
theorem cmpI_swap (a b : Int) : cmpI b a = - cmpI a b := by unfold cmpI; split <;> split <;> omega
theorem listlt_tri (a b : List UInt8) : a < b ∨ a = b ∨ b < a := Std.lt_trichotomy a b
theorem cmpB_zero {a b : ByteArray} : cmpB a b = 0 ↔ a = b := by
  unfold cmpB
  by_cases h : a.data.toList < b.data.toList
  · rw [if_pos h]; exact ⟨fun e => by omega, fun e => by subst e; exact absurd h (List.lt_irrefl _)⟩
  · rw [if_neg h]
    by_cases h2 : b.data.toList < a.data.toList
    · rw [if_pos h2]; exact ⟨fun e => by omega, fun e => by subst e; exact absurd h2 (List.lt_irrefl _)⟩
    · rw [if_neg h2]
      exact ⟨fun _ => by rcases listlt_tri a.data.toList b.data.toList with h3 | h3 | h3
                         · exact absurd h3 h
                         · exact bytes_ext h3
                         · exact absurd h3 h2, fun _ => rfl⟩
theorem cmpB_neg {a b : ByteArray} : cmpB a b < 0 ↔ a.data.toList < b.data.toList := by
  unfold cmpB
  by_cases h : a.data.toList < b.data.toList
  · rw [if_pos h]; exact ⟨fun _ => h, fun _ => by omega⟩
  · rw [if_neg h]; exact ⟨fun e => by split at e <;> omega, fun e => absurd e h⟩
theorem cmpB_swap (a b : ByteArray) : cmpB b a = - cmpB a b := by
  unfold cmpB
  by_cases h : a.data.toList < b.data.toList
  · have h2 : ¬ b.data.toList < a.data.toList := fun h2 => List.lt_asymm h h2
    rw [if_pos h, if_neg h2, if_pos h]; rfl
  · by_cases h2 : b.data.toList < a.data.toList
    · simp only [h, h2, if_true, if_false]
    · simp only [h, h2, if_false]; rfl
theorem cmpC_swap (a b : TValue) : cmpC b a = - cmpC a b := by
  unfold cmpC
  by_cases h : a.f0 = b.f0
  · have h' := h.symm
    simp only [ne_eq, h, not_true, if_false]
    by_cases h1 : b.f0 = 1
    · rw [if_pos h1, if_pos h1]; exact cmpI_swap _ _
    · rw [if_neg h1, if_neg h1]; exact cmpB_swap _ _
  · have h' : b.f0 ≠ a.f0 := fun e => h e.symm
    rw [if_pos h', if_pos h]; exact cmpI_swap _ _
theorem cmpC_zero {a b : TValue} (ha : okV a = true) (hb : okV b = true) : cmpC a b = 0 ↔ a = b := by
  unfold cmpC
  by_cases h : a.f0 = b.f0
  · simp only [ne_eq, h, not_true, if_false]
    rcases ok_cases ha with ⟨a0, a1, a2⟩ | ⟨a0, a2⟩ | ⟨a0, a1⟩ <;> rcases ok_cases hb with ⟨b0, b1, b2⟩ | ⟨b0, b2⟩ | ⟨b0, b1⟩ <;> (try (rw [a0, b0] at h; omega))
    · rw [if_neg (by omega), cmpB_zero]; exact ⟨fun e => V_ext h (by omega) e, fun e => by rw [e]⟩
    · rw [if_pos b0, cmpI_zero]; exact ⟨fun e => V_ext h e (a2.trans b2.symm), fun e => by rw [e]⟩
    · rw [if_neg (by omega), cmpB_zero]; exact ⟨fun e => V_ext h (by omega) e, fun e => by rw [e]⟩
  · rw [if_pos h, cmpI_zero]; exact ⟨fun e => absurd e h, fun e => absurd (by rw [e]) h⟩
theorem cmpC_neg {a b : TValue} (ha : okV a = true) (hb : okV b = true) : cmpC a b < 0 ↔ (a.f0 < b.f0 ∨ (a.f0 = b.f0 ∧ (a.f1 < b.f1 ∨ a.f2.data.toList < b.f2.data.toList))) := by
  unfold cmpC
  by_cases h : a.f0 = b.f0
  · simp only [ne_eq, h, not_true, if_false, Int.lt_irrefl, false_or, true_and]
    rcases ok_cases ha with ⟨a0, a1, a2⟩ | ⟨a0, a2⟩ | ⟨a0, a1⟩ <;> rcases ok_cases hb with ⟨b0, b1, b2⟩ | ⟨b0, b2⟩ | ⟨b0, b1⟩ <;> (try (rw [a0, b0] at h; omega))
    · rw [if_neg (by omega), cmpB_neg, a1, b1]; simp
    · rw [if_pos b0, cmpI_neg, a2, b2]; exact ⟨.inl, fun e => e.elim id (fun e => absurd e (List.lt_irrefl _))⟩
    · rw [if_neg (by omega), cmpB_neg, a1, b1]; simp
  · rw [if_pos h, cmpI_neg]; exact ⟨.inl, fun e => e.elim id (fun e => absurd e.1 h)⟩
theorem ref01_Compare_eq (k : Nat) (x y : TValue) : erasureref01_Compare k x y = some (cmpV x y) := by
  have hx := okV_cl x
  have hy := okV_cl y
  have hz := cmpC_zero hx hy
  have hn := cmpC_neg hx hy
  have hr : cmpC (clV x) (clV y) = -1 ∨ cmpC (clV x) (clV y) = 0 ∨ cmpC (clV x) (clV y) = 1 := by
    unfold cmpC cmpI cmpB; repeat' split
    all_goals simp
  unfold cmpV erasureref01_Compare
  rw [ref01_Clean_eq, ref01_Clean_eq]
  simp only [Option.bind_some, eqV_iff, decide_eq_true_eq, bytesLess_eq, beq_iff_eq]
  generalize clV x = a at *
  generalize clV y = b at *
  by_cases h : a = b
  · rw [hz.2 h]; rw [if_pos h]
  · have h0 : cmpC a b ≠ 0 := fun e => h (hz.1 e)
    rw [if_neg h]
    by_cases hlt : cmpC a b < 0
    · have e1 : cmpC a b = -1 := by omega
      have hd := hn.1 hlt
      simp only [e1]
      repeat' split
      all_goals first | rfl | (exfalso; simp_all; try omega)
    · have e1 : cmpC a b = 1 := by omega
      have hd : ¬ _ := fun e => hlt (hn.2 e)
      simp only [not_or, not_and] at hd
      simp only [e1]
      repeat' split
      all_goals first | rfl | (exfalso; simp_all; try omega)
end Go.Proofs.YtjhnpaenhdbhpabV
set_option linter.unusedVariables false
set_option linter.unusedSimpArgs false
namespace Go.Proofs.YtjhnpaenhdbhpabV
open Go Go.RowKit
def cmpR : List TValue → List TValue → Int
  | [], [] => 0
  | [], _ :: _ => -1
  | _ :: _, [] => 1
  | x :: xs, y :: ys => if cmpV x y = 0 then cmpR xs ys else cmpV x y
theorem cmpR_nil (xs : List TValue) : cmpR xs [] = if xs.length = 0 then 0 else 1 := by cases xs <;> rfl
theorem nil_cmpR (ys : List TValue) : cmpR [] ys = if ys.length = 0 then 0 else -1 := by cases ys <;> rfl
theorem value_CompareRows_ev (xs ys : List TValue) (hx : xs.length ≤ 9223372036854775807) : Ev (fun k => value_CompareRows k xs ys) (cmpR xs ys) := by
  unfold value_CompareRows slices_CompareFunc_api_Value__value_Compare
  refine Ev.bind ?_ (Ev.now _)
  refine (loop_down (P := fun i => i ≤ ys.length → Ev (fun k => slices_CompareFunc_api_Value__value_Compare.p1 k xs ys xs (xs.length : Int) (i : Int)) (cmpR (xs.drop i) (ys.drop i))) xs.length ?_ ?_ 0 (by omega)) (by omega)
  · intro hy
    refine Ev.succ ?_
    simp only [slices_CompareFunc_api_Value__value_Compare.p1, decide_eq_true_eq]
    rw [List.drop_length, nil_cmpR, List.length_drop]
    refine Ev.ite_neg (by omega) ?_
    by_cases h : xs.length < ys.length
    · exact Ev.ite_pos (by omega) (Ev.done (by rw [if_neg (by omega)]))
    · exact Ev.ite_neg (by omega) (Ev.done (by rw [if_pos (by omega)]))
  · intro i hi ih hy
    refine Ev.succ ?_
    simp only [slices_CompareFunc_api_Value__value_Compare.p1, decide_eq_true_eq, value_Compare_eq, Option.bind_some, bne_iff_ne, ne_eq, ite_not]
    refine Ev.ite_pos (by omega) (Ev.ite_pos (by omega) ?_)
    by_cases h : i < ys.length
    · refine Ev.ite_neg (by omega) (Ev.ite_pos (by omega) ?_)
      rw [dV hi, dV h, wrn hi hx]
      unfold cmpR
      by_cases hc : cmpV (xs.getD (i : Int).toNat dValue) (ys.getD (i : Int).toNat dValue) = 0
      · rw [if_pos hc]; exact Ev.ite_pos hc (ih (by omega))
      · rw [if_neg hc]; exact Ev.ite_neg hc (Ev.now _)
    · rw [List.drop_eq_nil_of_le (show ys.length ≤ i by omega), cmpR_nil, List.length_drop, if_neg (by omega)]
      exact Ev.ite_pos (by omega) (Ev.now _)
def okRow (l : List TValue) : Bool := l.all okV && decide (l.length ≤ 16)
theorem value_ValidRow_ev (l : List TValue) (hl : l.length ≤ 9223372036854775807) : Ev (fun k => value_ValidRow k l) (okRow l) := by
  unfold value_ValidRow
  refine (loop_down (P := fun i => Ev (fun k => value_ValidRow.p1 k l l (l.length : Int) (i : Int)) ((l.drop i).all okV && decide (l.length ≤ 16))) l.length ?_ ?_ 0 (by omega))
  · refine Ev.succ ?_
    simp only [value_ValidRow.p1, decide_eq_true_eq]
    rw [List.drop_length]
    refine Ev.ite_neg (by omega) (Ev.done ?_)
    simp; omega
  · intro i hi ih
    refine Ev.succ ?_
    simp only [value_ValidRow.p1, value_Valid_eq, Option.bind_some, decide_eq_true_eq]
    refine Ev.ite_pos (by omega) (Ev.ite_pos (by omega) ?_)
    rw [dV hi, wrn hi hl, List.all_cons]
    cases hc : okV (l.getD (i : Int).toNat dValue) with
    | true => exact Ev.ite_neg (by simp) ih
    | false => exact Ev.ite_pos rfl (Ev.now _)
def okE (e : TEntry) : Bool := okRow e.f0 && decide (-262144 ≤ e.f1 ∧ e.f1 ≤ 262144)
theorem countFits_eq (k : Nat) (n : Int) : bag_countFits k n = some (decide (-262144 ≤ n ∧ n ≤ 262144)) := by
  unfold bag_countFits
  simp only [decide_eq_true_eq]
  by_cases h : n ≥ -262144
  · rw [if_pos h]; simp; omega
  · rw [if_neg h]; simp; omega
theorem entryFits_ev (e : TEntry) (hl : e.f0.length ≤ 9223372036854775807) : Ev (fun k => bag_entryFits k e) (okE e) := by
  unfold bag_entryFits okE
  refine Ev.bind (value_ValidRow_ev _ hl) ?_
  cases hc : okRow e.f0 with
  | true => simp only [if_true, countFits_eq, Option.bind_some, Bool.true_and]; exact Ev.now _
  | false => simp only [Bool.false_eq_true, if_false, Bool.false_and]; exact Ev.now _
def bvF : Option TEntry → List TEntry → Bool
  | _, [] => true
  | none, e :: l => okE e && !decide (e.f1 = 0) && bvF (some e) l
  | some p, e :: l => okE e && !decide (e.f1 = 0) && decide (cmpR p.f0 e.f0 < 0) && bvF (some e) l
def bagV (l : List TEntry) : Bool := bvF none l && decide (l.length ≤ 4096)
def prevE (l : List TEntry) (i : Nat) : Option TEntry := if i = 0 then none else some (l.getD ((i - 1 : Nat) : Int).toNat dEntry)
def Fin (l : List TEntry) : Prop := l.length ≤ 9223372036854775807 ∧ ∀ e ∈ l, e.f0.length ≤ 9223372036854775807
theorem Fin.at {l : List TEntry} (h : Fin l) {i : Nat} (hi : i < l.length) : (l.getD (i : Int).toNat dEntry).f0.length ≤ 9223372036854775807 := h.2 _ (getD_mem _ hi)
theorem bag_Valid_ev (l : List TEntry) (hl : Fin l) : Ev (fun k => bag_Valid k l) (bagV l) := by
  unfold bag_Valid
  refine (loop_down (P := fun i => Ev (fun k => bag_Valid.p1 k l l (l.length : Int) (i : Int)) (bvF (prevE l i) (l.drop i) && decide (l.length ≤ 4096))) l.length ?_ ?_ 0 (by omega))
  · refine Ev.succ ?_
    simp only [bag_Valid.p1, decide_eq_true_eq]
    rw [List.drop_length]
    refine Ev.ite_neg (by omega) (Ev.done ?_)
    simp [bvF]; omega
  · intro i hi ih
    have hp : prevE l (i + 1) = some (l.getD (i : Int).toNat dEntry) := by simp [prevE]
    rw [hp] at ih
    refine Ev.succ ?_
    simp only [bag_Valid.p1, decide_eq_true_eq, beq_iff_eq]
    refine Ev.ite_pos (by omega) (Ev.ite_pos (by omega) (Ev.bind (entryFits_ev _ (hl.at hi)) ?_))
    rw [dE hi, wrn hi hl.1]
    cases hc : okE (l.getD (i : Int).toNat dEntry) with
    | false => refine Ev.ite_pos rfl (Ev.done ?_); unfold bvF; cases prevE l i <;> simp only [hc, Bool.false_and]
    | true =>
      refine Ev.ite_neg (by simp) ?_
      by_cases hz : (l.getD (i : Int).toNat dEntry).f1 = 0
      · refine Ev.ite_pos hz (Ev.done ?_); unfold bvF; cases prevE l i <;> simp only [hz, decide_true, Bool.not_true, Bool.and_false, Bool.false_and]
      · refine Ev.ite_neg hz ?_
        by_cases h0 : i = 0
        · subst h0
          refine Ev.ite_neg (by omega) (ih.to ?_)
          simp only [prevE, if_true, bvF, hc, decide_eq_false hz, Bool.not_false, Bool.and_self, Bool.true_and]
        · have hl1 := hl.1
          rw [wrp (by omega) (by omega)]
          refine Ev.ite_pos (by omega) (Ev.ite_pos (by omega) (Ev.bind (value_CompareRows_ev _ _ (hl.at (show i - 1 < l.length by omega))) ?_))
          simp only [prevE, if_neg h0, bvF, hc, decide_eq_false hz, Bool.not_false, Bool.true_and]
          by_cases hcmp : cmpR (l.getD ((i - 1 : Nat) : Int).toNat dEntry).f0 (l.getD (i : Int).toNat dEntry).f0 < 0
          · rw [decide_eq_true hcmp]; exact Ev.ite_neg (by omega) (by simpa using ih)
          · rw [decide_eq_false hcmp]; exact Ev.ite_pos (by omega) (Ev.now _)
end Go.Proofs.YtjhnpaenhdbhpabV
set_option linter.unusedVariables false
set_option linter.unusedSimpArgs false
set_option maxRecDepth 100000
namespace Go.Proofs.YtjhnpaenhdbhpabV
open Go Go.RowKit
noncomputable def erasureref22_SameRow.p1  : Nat → (List TValue) → (List TValue) → Int → Option Bool
  | 0, _, _, _ => none
  | k + 1, a0, b1, i5 => if (decide (i5 < ((a0).length : Int))) = true then (if 0 ≤ i5 ∧ i5 < ((a0).length : Int) then (if 0 ≤ i5 ∧ i5 < ((b1).length : Int) then (if (!(((a0.getD i5.toNat dValue).f0 == (b1.getD i5.toNat dValue).f0) && (((a0.getD i5.toNat dValue).f1 == (b1.getD i5.toNat dValue).f1) && ((((a0.getD i5.toNat dValue).f2).data.toList == ((b1.getD i5.toNat dValue).f2).data.toList) && true)))) = true then (some false) else (erasureref22_SameRow.p1 k a0 b1 (IntKind.i64.wrap (i5 + 1)))) else none) else none) else (some true)
noncomputable def erasureref22_SameRow  (k : Nat) (a0 : (List TValue)) (b1 : (List TValue)) : Option Bool := if (((a0).length : Int) != ((b1).length : Int)) = true then (some false) else (erasureref22_SameRow.p1 k a0 b1 0)
noncomputable def erasureref22_SameRow.t : List Item := [.code (bodyOf Try.f54)]
noncomputable def erasureref22_SameRow.s (a0 : (List TValue)) (b1 : (List TValue)) : St := ⟨frOf Try.f54.ntmps 0 [(0, .p (eL 3 cValue dValue a0)), (1, .p (eL 3 cValue dValue b1))], []⟩
noncomputable def erasureref22_SameRow.p1.t : List Item := nav 12 [false] erasureref22_SameRow.t
noncomputable def erasureref22_SameRow.p1.s (a0 : (List TValue)) (b1 : (List TValue)) (i5 : Int) : St := ⟨frOf Try.f54.ntmps 0 [(0, .p (eL 3 cValue dValue a0)), (1, .p (eL 3 cValue dValue b1)), (5, .p (.int .i64 i5))], []⟩
theorem erasureref22_SameRow.p1.run   : ∀ (k : Nat) (a0 : (List TValue)) (b1 : (List TValue)) (i5 : Int) (r : Bool), erasureref22_SameRow.p1 k a0 b1 i5 = some r → RunC Try.prog Try.f54 erasureref22_SameRow.p1.t (erasureref22_SameRow.p1.s a0 b1 i5) (.p (.bool r)) [] := by
  intro k
  induction k with
  | zero => intro a0 b1 i5 r h; simp [erasureref22_SameRow.p1] at h
  | succ k ih =>
    intro a0 b1 i5 r h
    rw [erasureref22_SameRow.p1] at h
    rcases ite_or h with ⟨g_2, h⟩ | ⟨g_2, h⟩
    · obtain ⟨g_3, h⟩ := ite_some h
      obtain ⟨g_4, h⟩ := ite_some h
      rcases ite_or h with ⟨g_5, h⟩ | ⟨g_5, h⟩
      · obtain rfl := Option.some.inj h
        exact RunC.out [.n 2, .r [(3, .dec true)], .n 5, .r [(8, .dec true)], .n 3] (by kernel_rfl) (Obs.of (by kernel_rfl) (And.intro g_2 (And.intro g_3 (And.intro g_4 g_5))))
      · exact RunC.go [.n 2, .r [(3, .dec true)], .n 5, .r [(8, .dec false)], .n 5, .k [0, 1, 5]] (by kernel_rfl) (Obs.of (by kernel_rfl) (And.intro g_2 (And.intro g_3 (And.intro g_4 (nt g_5))))) (ih _ _ _ r h)
    · obtain rfl := Option.some.inj h
      exact RunC.out [.n 2, .r [(3, .dec false)], .n 4] (by kernel_rfl) (Obs.of (by kernel_rfl) (nt g_2))
theorem erasureref22_SameRow.run   {k : Nat} {a0 : (List TValue)} {b1 : (List TValue)} {r : Bool} (h : erasureref22_SameRow k a0 b1 = some r) : RunC Try.prog Try.f54 erasureref22_SameRow.t (erasureref22_SameRow.s a0 b1) (.p (.bool r)) [] := by
  unfold erasureref22_SameRow at h
  rcases ite_or h with ⟨g_1, h⟩ | ⟨g_1, h⟩
  · obtain rfl := Option.some.inj h
    exact RunC.out [.n 4, .r [(4, .dec true)], .n 3] (by kernel_rfl) (Obs.of (by kernel_rfl) g_1)
  · exact RunC.go [.n 4, .r [(4, .dec false)], .n 7, .k [0, 1, 5]] (by kernel_rfl) (Obs.of (by kernel_rfl) (nt g_1)) (erasureref22_SameRow.p1.run k _ _ _ r h)
theorem erasureref22_SameRow.p1.mono   : ∀ (k k' : Nat) (a0 : (List TValue)) (b1 : (List TValue)) (i5 : Int) (r : Bool), k ≤ k' → erasureref22_SameRow.p1 k a0 b1 i5 = some r → erasureref22_SameRow.p1 k' a0 b1 i5 = some r := by
  intro k
  induction k with
  | zero => intro k' a0 b1 i5 r hk h; simp [erasureref22_SameRow.p1] at h
  | succ k ih =>
    intro k' a0 b1 i5 r hk h
    obtain ⟨k', rfl⟩ : ∃ m, k' = m + 1 := ⟨k' - 1, by omega⟩
    replace hk := Nat.le_of_succ_le_succ hk
    rw [erasureref22_SameRow.p1] at h ⊢
    rcases ite_or h with ⟨g_2, h⟩ | ⟨g_2, h⟩
    · refine itp g_2 ?_
      obtain ⟨g_3, h⟩ := ite_some h
      refine itp g_3 ?_
      obtain ⟨g_4, h⟩ := ite_some h
      refine itp g_4 ?_
      rcases ite_or h with ⟨g_5, h⟩ | ⟨g_5, h⟩
      · refine itp g_5 ?_
        exact h
      · refine itn g_5 ?_
        exact ih _ _ _ _ r hk h
    · refine itn g_2 ?_
      exact h
theorem erasureref22_SameRow.mono   : ∀ (k k' : Nat) (a0 : (List TValue)) (b1 : (List TValue)) (r : Bool), k ≤ k' → erasureref22_SameRow k a0 b1 = some r → erasureref22_SameRow k' a0 b1 = some r := by
  intro k k' a0 b1 r hk h
  unfold erasureref22_SameRow at h ⊢
  rcases ite_or h with ⟨g_1, h⟩ | ⟨g_1, h⟩
  · refine itp g_1 ?_
    exact h
  · refine itn g_1 ?_
    exact erasureref22_SameRow.p1.mono _ _ _ _ _ r hk h
theorem erasureref22_SameRow.spec {k : Nat} {a0 : (List TValue)} {b1 : (List TValue)} {r : Bool} (h : erasureref22_SameRow k a0 b1 = some r) : Spec Try.prog 54 [.p (eL 3 cValue dValue a0), .p (eL 3 cValue dValue b1)] (.p (.bool r)) [] :=
  spec_of mix Try.func54 (body := bodyOf Try.f54) (by kernel_rfl) (by kernel_rfl) (erasureref22_SameRow.run h)
end Go.Proofs.YtjhnpaenhdbhpabV
set_option linter.unusedVariables false
set_option linter.unusedSimpArgs false
set_option maxRecDepth 100000
namespace Go.Proofs.YtjhnpaenhdbhpabV
open Go Go.RowKit
noncomputable def erasureref22_SameBag.p1  : Nat → (List TEntry) → (List TEntry) → Int → Option Bool
  | 0, _, _, _ => none
  | k + 1, a0, b1, i5 => if (decide (i5 < ((a0).length : Int))) = true then (if 0 ≤ i5 ∧ i5 < ((a0).length : Int) then (if 0 ≤ i5 ∧ i5 < ((b1).length : Int) then ((erasureref22_SameRow k ((a0.getD i5.toNat dEntry).f0) ((b1.getD i5.toNat dEntry).f0)).bind fun y_5 => (if (!y_5) = true then (some false) else (if ((a0.getD i5.toNat dEntry).f1 != (b1.getD i5.toNat dEntry).f1) = true then (some false) else (erasureref22_SameBag.p1 k a0 b1 (IntKind.i64.wrap (i5 + 1)))))) else none) else none) else (some true)
noncomputable def erasureref22_SameBag  (k : Nat) (a0 : (List TEntry)) (b1 : (List TEntry)) : Option Bool := if (((a0).length : Int) != ((b1).length : Int)) = true then (some false) else (erasureref22_SameBag.p1 k a0 b1 0)
noncomputable def erasureref22_SameBag.t : List Item := [.code (bodyOf Try.f36)]
noncomputable def erasureref22_SameBag.s (a0 : (List TEntry)) (b1 : (List TEntry)) : St := ⟨frOf Try.f36.ntmps 0 [(0, .p (eL 2 cEntry dEntry a0)), (1, .p (eL 2 cEntry dEntry b1))], []⟩
noncomputable def erasureref22_SameBag.p1.t : List Item := nav 12 [false] erasureref22_SameBag.t
noncomputable def erasureref22_SameBag.p1.s (a0 : (List TEntry)) (b1 : (List TEntry)) (i5 : Int) : St := ⟨frOf Try.f36.ntmps 0 [(0, .p (eL 2 cEntry dEntry a0)), (1, .p (eL 2 cEntry dEntry b1)), (5, .p (.int .i64 i5))], []⟩
theorem erasureref22_SameBag.p1.run   : ∀ (k : Nat) (a0 : (List TEntry)) (b1 : (List TEntry)) (i5 : Int) (r : Bool), erasureref22_SameBag.p1 k a0 b1 i5 = some r → RunC Try.prog Try.f36 erasureref22_SameBag.p1.t (erasureref22_SameBag.p1.s a0 b1 i5) (.p (.bool r)) [] := by
  intro k
  induction k with
  | zero => intro a0 b1 i5 r h; simp [erasureref22_SameBag.p1] at h
  | succ k ih =>
    intro a0 b1 i5 r h
    rw [erasureref22_SameBag.p1] at h
    rcases ite_or h with ⟨g_2, h⟩ | ⟨g_2, h⟩
    · obtain ⟨g_3, h⟩ := ite_some h
      obtain ⟨g_4, h⟩ := ite_some h
      obtain ⟨y_5, e_6, h⟩ := bind_or h
      rcases ite_or h with ⟨g_7, h⟩ | ⟨g_7, h⟩
      · obtain rfl := Option.some.inj h
        exact RunC.out [.n 2, .r [(3, .dec true)], .n 5, .r [(10, .call (.p (.bool y_5)) []), (12, .dec true)], .n 3] (by kernel_rfl) (Obs.of (by kernel_rfl) (And.intro g_2 (And.intro g_3 (And.intro g_4 (And.intro (erasureref22_SameRow.spec e_6) g_7)))))
      · rcases ite_or h with ⟨g_8, h⟩ | ⟨g_8, h⟩
        · obtain rfl := Option.some.inj h
          exact RunC.out [.n 2, .r [(3, .dec true)], .n 5, .r [(10, .call (.p (.bool y_5)) []), (12, .dec false), (24, .dec true)], .n 3] (by kernel_rfl) (Obs.of (by kernel_rfl) (And.intro g_2 (And.intro g_3 (And.intro g_4 (And.intro (erasureref22_SameRow.spec e_6) (And.intro (nt g_7) (And.intro g_3 (And.intro g_4 g_8))))))))
        · exact RunC.go [.n 2, .r [(3, .dec true)], .n 5, .r [(10, .call (.p (.bool y_5)) []), (12, .dec false), (24, .dec false)], .n 5, .k [0, 1, 5]] (by kernel_rfl) (Obs.of (by kernel_rfl) (And.intro g_2 (And.intro g_3 (And.intro g_4 (And.intro (erasureref22_SameRow.spec e_6) (And.intro (nt g_7) (And.intro g_3 (And.intro g_4 (nt g_8))))))))) (ih _ _ _ r h)
    · obtain rfl := Option.some.inj h
      exact RunC.out [.n 2, .r [(3, .dec false)], .n 4] (by kernel_rfl) (Obs.of (by kernel_rfl) (nt g_2))
theorem erasureref22_SameBag.run   {k : Nat} {a0 : (List TEntry)} {b1 : (List TEntry)} {r : Bool} (h : erasureref22_SameBag k a0 b1 = some r) : RunC Try.prog Try.f36 erasureref22_SameBag.t (erasureref22_SameBag.s a0 b1) (.p (.bool r)) [] := by
  unfold erasureref22_SameBag at h
  rcases ite_or h with ⟨g_1, h⟩ | ⟨g_1, h⟩
  · obtain rfl := Option.some.inj h
    exact RunC.out [.n 4, .r [(4, .dec true)], .n 3] (by kernel_rfl) (Obs.of (by kernel_rfl) g_1)
  · exact RunC.go [.n 4, .r [(4, .dec false)], .n 7, .k [0, 1, 5]] (by kernel_rfl) (Obs.of (by kernel_rfl) (nt g_1)) (erasureref22_SameBag.p1.run k _ _ _ r h)
theorem erasureref22_SameBag.p1.mono   : ∀ (k k' : Nat) (a0 : (List TEntry)) (b1 : (List TEntry)) (i5 : Int) (r : Bool), k ≤ k' → erasureref22_SameBag.p1 k a0 b1 i5 = some r → erasureref22_SameBag.p1 k' a0 b1 i5 = some r := by
  intro k
  induction k with
  | zero => intro k' a0 b1 i5 r hk h; simp [erasureref22_SameBag.p1] at h
  | succ k ih =>
    intro k' a0 b1 i5 r hk h
    obtain ⟨k', rfl⟩ : ∃ m, k' = m + 1 := ⟨k' - 1, by omega⟩
    replace hk := Nat.le_of_succ_le_succ hk
    rw [erasureref22_SameBag.p1] at h ⊢
    rcases ite_or h with ⟨g_2, h⟩ | ⟨g_2, h⟩
    · refine itp g_2 ?_
      obtain ⟨g_3, h⟩ := ite_some h
      refine itp g_3 ?_
      obtain ⟨g_4, h⟩ := ite_some h
      refine itp g_4 ?_
      obtain ⟨y_5, e_6, h⟩ := bind_or h
      refine bnd (erasureref22_SameRow.mono _ _ _ _ _ hk e_6) ?_
      rcases ite_or h with ⟨g_7, h⟩ | ⟨g_7, h⟩
      · refine itp g_7 ?_
        exact h
      · refine itn g_7 ?_
        rcases ite_or h with ⟨g_8, h⟩ | ⟨g_8, h⟩
        · refine itp g_8 ?_
          exact h
        · refine itn g_8 ?_
          exact ih _ _ _ _ r hk h
    · refine itn g_2 ?_
      exact h
theorem erasureref22_SameBag.mono   : ∀ (k k' : Nat) (a0 : (List TEntry)) (b1 : (List TEntry)) (r : Bool), k ≤ k' → erasureref22_SameBag k a0 b1 = some r → erasureref22_SameBag k' a0 b1 = some r := by
  intro k k' a0 b1 r hk h
  unfold erasureref22_SameBag at h ⊢
  rcases ite_or h with ⟨g_1, h⟩ | ⟨g_1, h⟩
  · refine itp g_1 ?_
    exact h
  · refine itn g_1 ?_
    exact erasureref22_SameBag.p1.mono _ _ _ _ _ r hk h
theorem erasureref22_SameBag.spec {k : Nat} {a0 : (List TEntry)} {b1 : (List TEntry)} {r : Bool} (h : erasureref22_SameBag k a0 b1 = some r) : Spec Try.prog 36 [.p (eL 2 cEntry dEntry a0), .p (eL 2 cEntry dEntry b1)] (.p (.bool r)) [] :=
  spec_of mix Try.func36 (body := bodyOf Try.f36) (by kernel_rfl) (by kernel_rfl) (erasureref22_SameBag.run h)
end Go.Proofs.YtjhnpaenhdbhpabV
set_option linter.unusedVariables false
set_option linter.unusedSimpArgs false
set_option maxRecDepth 100000
namespace Go.Proofs.YtjhnpaenhdbhpabV
open Go Go.RowKit
noncomputable def erasureref26_SameBag  (k : Nat) (a0 : (List TEntry)) (b1 : (List TEntry)) : Option Bool := (erasureref22_SameBag k a0 b1).bind fun y_1 => (some y_1)
noncomputable def erasureref26_SameBag.t : List Item := [.code (bodyOf Try.f13)]
noncomputable def erasureref26_SameBag.s (a0 : (List TEntry)) (b1 : (List TEntry)) : St := ⟨frOf Try.f13.ntmps 0 [(0, .p (eL 2 cEntry dEntry a0)), (1, .p (eL 2 cEntry dEntry b1))], []⟩
theorem erasureref26_SameBag.run   {k : Nat} {a0 : (List TEntry)} {b1 : (List TEntry)} {r : Bool} (h : erasureref26_SameBag k a0 b1 = some r) : RunC Try.prog Try.f13 erasureref26_SameBag.t (erasureref26_SameBag.s a0 b1) (.p (.bool r)) [] := by
  unfold erasureref26_SameBag at h
  obtain ⟨y_1, e_2, h⟩ := bind_or h
  obtain rfl := Option.some.inj h
  exact RunC.out [.n 3, .r [(2, .call (.p (.bool y_1)) [])]] (by kernel_rfl) (Obs.of (by kernel_rfl) (erasureref22_SameBag.spec e_2))
theorem erasureref26_SameBag.mono   : ∀ (k k' : Nat) (a0 : (List TEntry)) (b1 : (List TEntry)) (r : Bool), k ≤ k' → erasureref26_SameBag k a0 b1 = some r → erasureref26_SameBag k' a0 b1 = some r := by
  intro k k' a0 b1 r hk h
  unfold erasureref26_SameBag at h ⊢
  obtain ⟨y_1, e_2, h⟩ := bind_or h
  refine bnd (erasureref22_SameBag.mono _ _ _ _ _ hk e_2) ?_
  exact h
theorem erasureref26_SameBag.spec {k : Nat} {a0 : (List TEntry)} {b1 : (List TEntry)} {r : Bool} (h : erasureref26_SameBag k a0 b1 = some r) : Spec Try.prog 13 [.p (eL 2 cEntry dEntry a0), .p (eL 2 cEntry dEntry b1)] (.p (.bool r)) [] :=
  spec_of mix Try.func13 (body := bodyOf Try.f13) (by kernel_rfl) (by kernel_rfl) (erasureref26_SameBag.run h)
end Go.Proofs.YtjhnpaenhdbhpabV
set_option linter.unusedVariables false
set_option linter.unusedSimpArgs false
namespace Go.Proofs.YtjhnpaenhdbhpabV
open Go Go.RowKit
theorem E_ext {x y : TEntry} (h0 : x.f0 = y.f0) (h1 : x.f1 = y.f1) : x = y := by cases x; cases y; simp_all
instance : DecidableEq TEntry := fun x y => decidable_of_iff (x.f0 = y.f0 ∧ x.f1 = y.f1) ⟨fun h => E_ext h.1 h.2, fun h => by subst h; exact ⟨rfl, rfl⟩⟩
end Go.Proofs.YtjhnpaenhdbhpabV
set_option linter.unusedVariables false
set_option linter.unusedSimpArgs false
namespace Go.Proofs.YtjhnpaenhdbhpabV
open Go Go.RowKit
theorem cmpC_trans {a b c : TValue} (ha : okV a = true) (hb : okV b = true) (hc : okV c = true) (h1 : cmpC a b < 0) (h2 : cmpC b c < 0) : cmpC a c < 0 := by
  rw [cmpC_neg ha hb] at h1
  rw [cmpC_neg hb hc] at h2
  rw [cmpC_neg ha hc]
  rcases h1 with h1 | ⟨e1, h1⟩ <;> rcases h2 with h2 | ⟨e2, h2⟩
  · exact .inl (by omega)
  · exact .inl (by omega)
  · exact .inl (by omega)
  · refine .inr ⟨by omega, ?_⟩
    rcases ok_cases ha with ⟨a0, a1, a2⟩ | ⟨a0, a2⟩ | ⟨a0, a1⟩ <;> rcases ok_cases hb with ⟨b0, b1, b2⟩ | ⟨b0, b2⟩ | ⟨b0, b1⟩ <;> rcases ok_cases hc with ⟨c0, c1, c2⟩ | ⟨c0, c2⟩ | ⟨c0, c1⟩ <;> (try omega)
    · rw [a2, b2] at h1
      rcases h1 with h1 | h1
      · omega
      · exact absurd h1 (List.lt_irrefl _)
    · rw [a2, b2] at h1
      rw [b2, c2] at h2
      rcases h1 with h1 | h1
      · rcases h2 with h2 | h2
        · exact .inl (by omega)
        · exact absurd h2 (List.lt_irrefl _)
      · exact absurd h1 (List.lt_irrefl _)
    · rcases h1 with h1 | h1
      · omega
      · rcases h2 with h2 | h2
        · omega
        · exact .inr (List.lt_trans h1 h2)
theorem cmpV_trans {a b c : TValue} (h1 : cmpV a b < 0) (h2 : cmpV b c < 0) : cmpV a c < 0 := cmpC_trans (okV_cl a) (okV_cl b) (okV_cl c) h1 h2
theorem cmpV_swap (a b : TValue) : cmpV b a = - cmpV a b := cmpC_swap _ _
theorem cmpV_self (a : TValue) : cmpV a a = 0 := (cmpC_zero (okV_cl a) (okV_cl a)).2 rfl
theorem cmpV_zero {a b : TValue} (ha : okV a = true) (hb : okV b = true) : cmpV a b = 0 ↔ a = b := by
  unfold cmpV
  rw [clV_ok ha, clV_ok hb]
  exact cmpC_zero ha hb
end Go.Proofs.YtjhnpaenhdbhpabV
set_option linter.unusedVariables false
set_option linter.unusedSimpArgs false
namespace Go.Proofs.YtjhnpaenhdbhpabV
open Go Go.RowKit
theorem cmpR_swap : ∀ a b : List TValue, cmpR b a = - cmpR a b
  | [], [] => rfl
  | [], _ :: _ => rfl
  | _ :: _, [] => rfl
  | x :: a, y :: b => by
    unfold cmpR
    have h := cmpV_swap x y
    by_cases h0 : cmpV x y = 0
    · rw [if_pos h0, if_pos (by omega)]; exact cmpR_swap a b
    · rw [if_neg h0, if_neg (by omega)]; exact h
theorem cmpR_self : ∀ a : List TValue, cmpR a a = 0
  | [] => rfl
  | x :: a => by unfold cmpR; rw [if_pos (cmpV_self x)]; exact cmpR_self a
theorem cmpV_zero_cl {a b : TValue} : cmpV a b = 0 ↔ clV a = clV b := cmpC_zero (okV_cl a) (okV_cl b)
theorem cmpV_congr {a a' b b' : TValue} (ha : clV a = clV a') (hb : clV b = clV b') : cmpV a b = cmpV a' b' := by unfold cmpV; rw [ha, hb]
theorem cmpR_zero : ∀ {a b : List TValue}, cmpR a b = 0 ↔ a.map clV = b.map clV
  | [], [] => by simp [cmpR]
  | [], _ :: _ => by simp [cmpR]
  | _ :: _, [] => by simp [cmpR]
  | x :: a, y :: b => by
    unfold cmpR
    simp only [List.map_cons, List.cons.injEq]
    by_cases h0 : cmpV x y = 0
    · rw [if_pos h0, cmpR_zero]
      exact ⟨fun h => ⟨cmpV_zero_cl.1 h0, h⟩, fun h => h.2⟩
    · rw [if_neg h0]
      exact ⟨fun h => absurd h h0, fun h => absurd (cmpV_zero_cl.2 h.1) h0⟩
theorem map_cl {l : List TValue} (h : ∀ x ∈ l, okV x = true) : l.map clV = l := by
  induction l with
  | nil => rfl
  | cons x l ih => rw [List.map_cons, clV_ok (h x (List.mem_cons_self ..)), ih (fun y hy => h y (List.mem_cons_of_mem _ hy))]
theorem okRow_mem {l : List TValue} (h : okRow l = true) : ∀ x ∈ l, okV x = true := by
  unfold okRow at h
  simp only [Bool.and_eq_true, List.all_eq_true] at h
  exact h.1
theorem okRow_len {l : List TValue} (h : okRow l = true) : l.length ≤ 16 := by
  unfold okRow at h
  simp only [Bool.and_eq_true, decide_eq_true_eq] at h
  exact h.2
theorem cmpR_zero_ok {a b : List TValue} (ha : okRow a = true) (hb : okRow b = true) : cmpR a b = 0 ↔ a = b := by
  rw [cmpR_zero, map_cl (okRow_mem ha), map_cl (okRow_mem hb)]
theorem cmpR_trans : ∀ {a b c : List TValue}, cmpR a b < 0 → cmpR b c < 0 → cmpR a c < 0
  | [], [], c, h, _ => by simp [cmpR] at h
  | [], _ :: _, [], _, h => by simp [cmpR] at h
  | [], _ :: _, _ :: _, _, _ => by simp [cmpR]
  | _ :: _, [], _, h, _ => by simp [cmpR] at h
  | _ :: _, _ :: _, [], _, h => by simp [cmpR] at h
  | x :: a, y :: b, z :: c, h1, h2 => by
    unfold cmpR at h1 h2 ⊢
    by_cases e1 : cmpV x y = 0
    · rw [if_pos e1] at h1
      have q := cmpV_congr (b := z) (cmpV_zero_cl.1 e1) rfl
      by_cases e2 : cmpV y z = 0
      · rw [if_pos e2] at h2
        rw [if_pos (by omega)]
        exact cmpR_trans h1 h2
      · rw [if_neg e2] at h2
        rw [if_neg (by omega)]; omega
    · rw [if_neg e1] at h1
      by_cases e2 : cmpV y z = 0
      · rw [if_pos e2] at h2
        have q := cmpV_congr (a := x) rfl (cmpV_zero_cl.1 e2)
        rw [if_neg (by omega)]; omega
      · rw [if_neg e2] at h2
        have := cmpV_trans h1 h2
        rw [if_neg (by omega)]; exact this
def OrdE (l : List TEntry) : Prop := l.Pairwise fun x y => cmpR x.f0 y.f0 < 0
theorem bvF_ord : ∀ (l : List TEntry) (p : Option TEntry), bvF p l = true ↔ (∀ e ∈ l, okE e = true ∧ e.f1 ≠ 0) ∧ OrdE l ∧ ∀ q, p = some q → ∀ x ∈ l, cmpR q.f0 x.f0 < 0
  | [], p => by
    constructor
    · intro _; exact ⟨fun e he => (by cases he), List.Pairwise.nil, fun _ _ x hx => (by cases hx)⟩
    · intro _; cases p <;> rfl
  | y :: l, p => by
    have h1 : bvF p (y :: l) = true ↔ (okE y = true ∧ y.f1 ≠ 0) ∧ (∀ q, p = some q → cmpR q.f0 y.f0 < 0) ∧ bvF (some y) l = true := by
      cases p with
      | none => simp [bvF]
      | some p =>
        simp only [bvF, Bool.and_eq_true, decide_eq_true_eq, Bool.not_eq_true', decide_eq_false_iff_not, Option.some.injEq, forall_eq']
        exact ⟨fun h => ⟨h.1.1, h.1.2, h.2⟩, fun h => ⟨⟨h.1, h.2.1⟩, h.2.2⟩⟩
    rw [h1, bvF_ord l (some y)]
    constructor
    · rintro ⟨h2, h3, h4, h5, h6⟩
      refine ⟨fun e he => ?_, List.Pairwise.cons (fun x hx => h6 y rfl x hx) h5, fun q hq x hx => ?_⟩
      · rcases List.mem_cons.1 he with rfl | he
        · exact h2
        · exact h4 e he
      · rcases List.mem_cons.1 hx with rfl | hx
        · exact h3 q hq
        · exact cmpR_trans (h3 q hq) (h6 y rfl x hx)
    · rintro ⟨h2, h3, h4⟩
      have h5 := List.pairwise_cons.1 h3
      exact ⟨h2 y (List.mem_cons_self ..), fun q hq => h4 q hq y (List.mem_cons_self ..), fun e he => h2 e (List.mem_cons_of_mem _ he), h5.2, fun q hq x hx => by cases hq; exact h5.1 x hx⟩
theorem bagV_iff {l : List TEntry} : bagV l = true ↔ (∀ e ∈ l, okE e = true ∧ e.f1 ≠ 0) ∧ OrdE l ∧ l.length ≤ 4096 := by
  unfold bagV
  rw [Bool.and_eq_true, decide_eq_true_eq, bvF_ord]
  exact ⟨fun h => ⟨h.1.1, h.1.2.1, h.2⟩, fun h => ⟨⟨h.1, h.2.1, fun q hq => by cases hq⟩, h.2.2⟩⟩
theorem okE_rng {e : TEntry} (h : okE e = true) : okRow e.f0 = true ∧ -262144 ≤ e.f1 ∧ e.f1 ≤ 262144 := by
  unfold okE at h
  rw [Bool.and_eq_true, decide_eq_true_eq] at h
  exact h
theorem bagV_fin {l : List TEntry} (h : bagV l = true) : Fin l := by
  rw [bagV_iff] at h
  exact ⟨by omega, fun e he => by have := okRow_len (okE_rng (h.1 e he).1).1; omega⟩
end Go.Proofs.YtjhnpaenhdbhpabV
set_option linter.unusedVariables false
set_option linter.unusedSimpArgs false
namespace Go.Proofs.YtjhnpaenhdbhpabV
open Go Go.RowKit
open Classical in
noncomputable def cnt : List TEntry → List TValue → Int
  | [], _ => 0
  | e :: l, r => (if e.f0 = r then e.f1 else 0) + cnt l r
def okRws (l : List TEntry) : Prop := ∀ e ∈ l, okRow e.f0 = true
def nzE (l : List TEntry) : Prop := ∀ e ∈ l, e.f1 ≠ 0
def bndE (B : Int) (l : List TEntry) : Prop := ∀ e ∈ l, -B ≤ e.f1 ∧ e.f1 ≤ B
def NF (l : List TEntry) : Prop := okRws l ∧ nzE l ∧ OrdE l
theorem cnt_nil (r : List TValue) : cnt [] r = 0 := rfl
theorem cnt_cons (e : TEntry) (l : List TEntry) (r : List TValue) : cnt (e :: l) r = (if e.f0 = r then e.f1 else 0) + cnt l r := by
  rw [cnt]
theorem cnt_append : ∀ (a b : List TEntry) (r : List TValue), cnt (a ++ b) r = cnt a r + cnt b r
  | [], b, r => by rw [List.nil_append, cnt_nil]; omega
  | e :: a, b, r => by rw [List.cons_append, cnt_cons, cnt_cons, cnt_append a b r]; omega
theorem cnt_none {l : List TEntry} {r : List TValue} (h : ∀ e ∈ l, e.f0 ≠ r) : cnt l r = 0 := by
  induction l with
  | nil => rfl
  | cons e l ih => rw [cnt_cons, if_neg (h e (List.mem_cons_self ..)), ih (fun x hx => h x (List.mem_cons_of_mem _ hx))]; rfl
theorem OrdE.head {x : TEntry} {l : List TEntry} (h : OrdE (x :: l)) : ∀ e ∈ l, cmpR x.f0 e.f0 < 0 := (List.pairwise_cons.1 h).1
theorem OrdE.tail {x : TEntry} {l : List TEntry} (h : OrdE (x :: l)) : OrdE l := (List.pairwise_cons.1 h).2
theorem lt_ne {a b : List TValue} (h : cmpR a b < 0) : b ≠ a := by
  rintro rfl
  rw [cmpR_self] at h; omega
theorem cnt_head {x : TEntry} {l : List TEntry} (h : OrdE (x :: l)) : cnt (x :: l) x.f0 = x.f1 := by
  rw [cnt_cons, if_pos rfl, cnt_none (fun e he => lt_ne (h.head e he))]; omega
theorem cnt_below {l : List TEntry} {r : List TValue} (h : OrdE l) (hr : ∀ e ∈ l.head?, cmpR r e.f0 < 0) : cnt l r = 0 := by
  refine cnt_none (fun e he => ?_)
  cases l with
  | nil => cases he
  | cons x l =>
    have h0 := hr x (by simp)
    rcases List.mem_cons.1 he with rfl | he
    · exact lt_ne h0
    · exact lt_ne (cmpR_trans h0 (h.head e he))
theorem NF.tail {x : TEntry} {l : List TEntry} (h : NF (x :: l)) : NF l := ⟨fun e he => h.1 e (List.mem_cons_of_mem _ he), fun e he => h.2.1 e (List.mem_cons_of_mem _ he), h.2.2.tail⟩
theorem NF_ext : ∀ {a b : List TEntry}, NF a → NF b → (∀ r, okRow r = true → cnt a r = cnt b r) → a = b
  | [], [], _, _, _ => rfl
  | [], y :: b, _, hb, h => by
    have := h y.f0 (hb.1 y (List.mem_cons_self ..))
    rw [cnt_head hb.2.2, cnt_nil] at this
    exact absurd this.symm (hb.2.1 y (List.mem_cons_self ..))
  | x :: a, [], ha, _, h => by
    have := h x.f0 (ha.1 x (List.mem_cons_self ..))
    rw [cnt_head ha.2.2, cnt_nil] at this
    exact absurd this (ha.2.1 x (List.mem_cons_self ..))
  | x :: a, y :: b, ha, hb, h => by
    have okx := ha.1 x (List.mem_cons_self ..)
    have oky := hb.1 y (List.mem_cons_self ..)
    have hx := h x.f0 okx
    have hy := h y.f0 oky
    rw [cnt_head ha.2.2] at hx
    rw [cnt_head hb.2.2] at hy
    have sw := cmpR_swap x.f0 y.f0
    have e0 : cmpR x.f0 y.f0 = 0 := by
      by_cases h1 : cmpR x.f0 y.f0 < 0
      · rw [cnt_below hb.2.2 (by simpa using h1)] at hx
        exact absurd hx (ha.2.1 x (List.mem_cons_self ..))
      · by_cases h2 : cmpR y.f0 x.f0 < 0
        · rw [cnt_below ha.2.2 (by simpa using h2)] at hy
          exact absurd hy.symm (hb.2.1 y (List.mem_cons_self ..))
        · omega
    have er := (cmpR_zero_ok okx oky).1 e0
    have ef : x.f1 = y.f1 := by rw [hx, er, cnt_head hb.2.2]
    have exy : x = y := by
      cases x; cases y; simp only at er ef; rw [er, ef]
    subst exy
    rw [NF_ext ha.tail hb.tail (fun r hr => by have := h r hr; rw [cnt_cons, cnt_cons] at this; omega)]
def mergeF : Nat → List TEntry → List TEntry → List TEntry
  | 0, _, _ => []
  | _ + 1, [], b => b
  | _ + 1, x :: a, [] => x :: a
  | n + 1, x :: a, y :: b => if cmpR x.f0 y.f0 < 0 then x :: mergeF n a (y :: b) else if 0 < cmpR x.f0 y.f0 then y :: mergeF n (x :: a) b else if x.f1 + y.f1 ≠ 0 then ⟨x.f0, x.f1 + y.f1⟩ :: mergeF n a b else mergeF n a b
theorem mergeF_cons (n : Nat) (x : TEntry) (a : List TEntry) (y : TEntry) (b : List TEntry) : mergeF (n + 1) (x :: a) (y :: b) = if cmpR x.f0 y.f0 < 0 then x :: mergeF n a (y :: b) else if 0 < cmpR x.f0 y.f0 then y :: mergeF n (x :: a) b else if x.f1 + y.f1 ≠ 0 then ⟨x.f0, x.f1 + y.f1⟩ :: mergeF n a b else mergeF n a b := rfl
def mergeS (a b : List TEntry) : List TEntry := mergeF (a.length + b.length + 1) a b
theorem mergeF_more : ∀ (n m : Nat) (a b : List TEntry), a.length + b.length < n → a.length + b.length < m → mergeF n a b = mergeF m a b
  | 0, _, _, _, h, _ => by omega
  | _, 0, _, _, _, h => by omega
  | _ + 1, _ + 1, [], _, _, _ => rfl
  | _ + 1, _ + 1, _ :: _, [], _, _ => rfl
  | n + 1, m + 1, x :: a, y :: b, h, h' => by
    simp only [List.length_cons] at h h'
    unfold mergeF
    rw [mergeF_more n m a (y :: b) (by simp; omega) (by simp; omega), mergeF_more n m (x :: a) b (by simp; omega) (by simp; omega), mergeF_more n m a b (by omega) (by omega)]
theorem mergeS_nil (b : List TEntry) : mergeS [] b = b := rfl
theorem mergeS_nil' (a : List TEntry) : mergeS a [] = a := by cases a <;> rfl
theorem mergeS_cons (x : TEntry) (a : List TEntry) (y : TEntry) (b : List TEntry) : mergeS (x :: a) (y :: b) = if cmpR x.f0 y.f0 < 0 then x :: mergeS a (y :: b) else if 0 < cmpR x.f0 y.f0 then y :: mergeS (x :: a) b else if x.f1 + y.f1 ≠ 0 then ⟨x.f0, x.f1 + y.f1⟩ :: mergeS a b else mergeS a b := by
  unfold mergeS
  rw [mergeF_cons]
  simp only [List.length_cons]
  rw [mergeF_more (a.length + 1 + (b.length + 1)) (a.length + (b.length + 1) + 1) a (y :: b) (by simp) (by simp), mergeF_more (a.length + 1 + (b.length + 1)) (a.length + 1 + b.length + 1) (x :: a) b (by simp) (by simp), mergeF_more (a.length + 1 + (b.length + 1)) (a.length + b.length + 1) a b (by omega) (by omega)]
theorem merge_ind {P : List TEntry → List TEntry → Prop} (h1 : ∀ b, P [] b) (h2 : ∀ a, P a []) (h3 : ∀ x a y b, P a (y :: b) → P (x :: a) b → P a b → P (x :: a) (y :: b)) : ∀ a b, P a b := by
  intro a
  induction a with
  | nil => exact h1
  | cons x a iha =>
    intro b
    induction b with
    | nil => exact h2 _
    | cons y b ihb => exact h3 x a y b (iha _) ihb (iha _)
theorem mergeS_row {a b : List TEntry} : ∀ e ∈ mergeS a b, (∃ x ∈ a, e.f0 = x.f0) ∨ ∃ y ∈ b, e.f0 = y.f0 := by
  refine merge_ind (P := fun a b => ∀ e ∈ mergeS a b, (∃ x ∈ a, e.f0 = x.f0) ∨ ∃ y ∈ b, e.f0 = y.f0) ?_ ?_ ?_ a b
  · intro b e he; exact Or.inr ⟨e, he, rfl⟩
  · intro a e he; rw [mergeS_nil'] at he; exact Or.inl ⟨e, he, rfl⟩
  · intro x a y b i1 i2 i3 e he
    rw [mergeS_cons] at he
    have lift1 : ((∃ z ∈ a, e.f0 = z.f0) ∨ ∃ z ∈ y :: b, e.f0 = z.f0) → (∃ z ∈ x :: a, e.f0 = z.f0) ∨ ∃ z ∈ y :: b, e.f0 = z.f0 := by
      rintro (⟨z, hz, q⟩ | h)
      · exact Or.inl ⟨z, List.mem_cons_of_mem _ hz, q⟩
      · exact Or.inr h
    have lift2 : ((∃ z ∈ x :: a, e.f0 = z.f0) ∨ ∃ z ∈ b, e.f0 = z.f0) → (∃ z ∈ x :: a, e.f0 = z.f0) ∨ ∃ z ∈ y :: b, e.f0 = z.f0 := by
      rintro (h | ⟨z, hz, q⟩)
      · exact Or.inl h
      · exact Or.inr ⟨z, List.mem_cons_of_mem _ hz, q⟩
    have lift3 : ((∃ z ∈ a, e.f0 = z.f0) ∨ ∃ z ∈ b, e.f0 = z.f0) → (∃ z ∈ x :: a, e.f0 = z.f0) ∨ ∃ z ∈ y :: b, e.f0 = z.f0 := by
      rintro (⟨z, hz, q⟩ | ⟨z, hz, q⟩)
      · exact Or.inl ⟨z, List.mem_cons_of_mem _ hz, q⟩
      · exact Or.inr ⟨z, List.mem_cons_of_mem _ hz, q⟩
    split at he
    · rcases List.mem_cons.1 he with rfl | he
      · exact Or.inl ⟨e, List.mem_cons_self .., rfl⟩
      · exact lift1 (i1 e he)
    · split at he
      · rcases List.mem_cons.1 he with rfl | he
        · exact Or.inr ⟨e, List.mem_cons_self .., rfl⟩
        · exact lift2 (i2 e he)
      · split at he
        · rcases List.mem_cons.1 he with rfl | he
          · exact Or.inl ⟨x, List.mem_cons_self .., rfl⟩
          · exact lift3 (i3 e he)
        · exact lift3 (i3 e he)
theorem mergeS_len (a b : List TEntry) : (mergeS a b).length ≤ a.length + b.length := by
  refine merge_ind (P := fun a b => (mergeS a b).length ≤ a.length + b.length) ?_ ?_ ?_ a b
  · intro b; rw [mergeS_nil]; simp
  · intro a; rw [mergeS_nil']; simp
  · intro x a y b i1 i2 i3
    rw [mergeS_cons]
    simp only [List.length_cons] at *
    split
    · simp only [List.length_cons]; omega
    · split
      · simp only [List.length_cons]; omega
      · split
        · simp only [List.length_cons]; omega
        · omega
theorem mergeS_bnd {A B : Int} (hA : 0 ≤ A) (hB : 0 ≤ B) (a b : List TEntry) : bndE A a → bndE B b → bndE (A + B) (mergeS a b) := by
  refine merge_ind (P := fun a b => bndE A a → bndE B b → bndE (A + B) (mergeS a b)) ?_ ?_ ?_ a b
  · intro b _ hb e he; rw [mergeS_nil] at he; have := hb e he; omega
  · intro a ha _ e he; rw [mergeS_nil'] at he; have := ha e he; omega
  · intro x a y b i1 i2 i3 ha hb e he
    have hx := ha x (List.mem_cons_self ..)
    have hy := hb y (List.mem_cons_self ..)
    have ha' : bndE A a := fun z hz => ha z (List.mem_cons_of_mem _ hz)
    have hb' : bndE B b := fun z hz => hb z (List.mem_cons_of_mem _ hz)
    rw [mergeS_cons] at he
    split at he
    · rcases List.mem_cons.1 he with rfl | he
      · omega
      · exact i1 ha' hb e he
    · split at he
      · rcases List.mem_cons.1 he with rfl | he
        · omega
        · exact i2 ha hb' e he
      · split at he
        · rcases List.mem_cons.1 he with rfl | he
          · simp only; omega
          · exact i3 ha' hb' e he
        · exact i3 ha' hb' e he
theorem mergeS_nf (a b : List TEntry) : NF a → NF b → NF (mergeS a b) ∧ ∀ r, okRow r = true → cnt (mergeS a b) r = cnt a r + cnt b r := by
  refine merge_ind (P := fun a b => NF a → NF b → NF (mergeS a b) ∧ ∀ r, okRow r = true → cnt (mergeS a b) r = cnt a r + cnt b r) ?_ ?_ ?_ a b
  · intro b _ hb; rw [mergeS_nil]; exact ⟨hb, fun r _ => by rw [cnt_nil]; omega⟩
  · intro a ha _; rw [mergeS_nil']; exact ⟨ha, fun r _ => by rw [cnt_nil]; omega⟩
  · intro x a y b i1 i2 i3 ha hb
    have okx := ha.1 x (List.mem_cons_self ..)
    have oky := hb.1 y (List.mem_cons_self ..)
    have nzx := ha.2.1 x (List.mem_cons_self ..)
    have nzy := hb.2.1 y (List.mem_cons_self ..)
    have sw := cmpR_swap x.f0 y.f0
    have cons : ∀ (z : TEntry) (l : List TEntry), okRow z.f0 = true → z.f1 ≠ 0 → NF l → (∀ e ∈ l, cmpR z.f0 e.f0 < 0) → NF (z :: l) := by
      intro z l h1 h2 h3 h4
      refine ⟨fun e he => ?_, fun e he => ?_, List.pairwise_cons.2 ⟨h4, h3.2.2⟩⟩
      · rcases List.mem_cons.1 he with rfl | he
        · exact h1
        · exact h3.1 e he
      · rcases List.mem_cons.1 he with rfl | he
        · exact h2
        · exact h3.2.1 e he
    rw [mergeS_cons]
    by_cases h1 : cmpR x.f0 y.f0 < 0
    · rw [if_pos h1]
      obtain ⟨j1, j2⟩ := i1 ha.tail hb
      refine ⟨cons x _ okx nzx j1 (fun e he => ?_), fun r hr => by rw [cnt_cons, j2 r hr, cnt_cons x a]; omega⟩
      rcases mergeS_row e he with ⟨z, hz, q⟩ | ⟨z, hz, q⟩
      · rw [q]; exact ha.2.2.head z hz
      · rw [q]
        rcases List.mem_cons.1 hz with rfl | hz
        · exact h1
        · exact cmpR_trans h1 (hb.2.2.head z hz)
    · rw [if_neg h1]
      by_cases h2 : 0 < cmpR x.f0 y.f0
      · rw [if_pos h2]
        obtain ⟨j1, j2⟩ := i2 ha hb.tail
        refine ⟨cons y _ oky nzy j1 (fun e he => ?_), fun r hr => by rw [cnt_cons, j2 r hr, cnt_cons y b]; omega⟩
        rcases mergeS_row e he with ⟨z, hz, q⟩ | ⟨z, hz, q⟩
        · rw [q]
          rcases List.mem_cons.1 hz with rfl | hz
          · omega
          · exact cmpR_trans (show cmpR y.f0 x.f0 < 0 by omega) (ha.2.2.head z hz)
        · rw [q]; exact hb.2.2.head z hz
      · rw [if_neg h2]
        obtain ⟨j1, j2⟩ := i3 ha.tail hb.tail
        have er := (cmpR_zero_ok okx oky).1 (by omega)
        have hc : ∀ r, okRow r = true → cnt (x :: a) r + cnt (y :: b) r = (if x.f0 = r then x.f1 + y.f1 else 0) + cnt (mergeS a b) r := by
          intro r hr
          rw [cnt_cons, cnt_cons, j2 r hr, ← er]
          split <;> omega
        by_cases h3 : x.f1 + y.f1 ≠ 0
        · rw [if_pos h3]
          refine ⟨cons _ _ okx h3 j1 (fun e he => ?_), fun r hr => by rw [hc r hr, cnt_cons]⟩
          rcases mergeS_row e he with ⟨z, hz, q⟩ | ⟨z, hz, q⟩
          · rw [q]; exact ha.2.2.head z hz
          · rw [q, er]; exact hb.2.2.head z hz
        · rw [if_neg h3]
          refine ⟨j1, fun r hr => ?_⟩
          rw [hc r hr]
          split <;> omega
def sumS : List TEntry → List TEntry
  | [] => []
  | e :: l => if e.f1 = 0 then sumS l else mergeS [e] (sumS l)
theorem NF_nil : NF [] := ⟨fun e he => (by cases he), fun e he => (by cases he), List.Pairwise.nil⟩
theorem NF_one {e : TEntry} (h1 : okRow e.f0 = true) (h2 : e.f1 ≠ 0) : NF [e] := ⟨by simpa [okRws] using h1, by simpa [nzE] using h2, List.pairwise_singleton _ _⟩
theorem sumS_nf : ∀ l : List TEntry, okRws l → NF (sumS l) ∧ ∀ r, okRow r = true → cnt (sumS l) r = cnt l r
  | [], _ => ⟨NF_nil, fun _ _ => rfl⟩
  | e :: l, h => by
    obtain ⟨h1, h2⟩ := sumS_nf l (fun x hx => h x (List.mem_cons_of_mem _ hx))
    unfold sumS
    by_cases h0 : e.f1 = 0
    · rw [if_pos h0]
      refine ⟨h1, fun r hr => ?_⟩
      rw [h2 r hr, cnt_cons]
      split <;> omega
    · rw [if_neg h0]
      obtain ⟨k1, k2⟩ := mergeS_nf [e] (sumS l) (NF_one (h e (List.mem_cons_self ..)) h0) h1
      refine ⟨k1, fun r hr => ?_⟩
      rw [k2 r hr, h2 r hr, cnt_cons, cnt_cons, cnt_nil]; omega
theorem sumS_len : ∀ l : List TEntry, (sumS l).length ≤ l.length
  | [] => Nat.le_refl _
  | e :: l => by
    unfold sumS
    have h := sumS_len l
    split
    · simp only [List.length_cons]; omega
    · have := mergeS_len [e] (sumS l)
      simp only [List.length_cons, List.length_nil] at *; omega
theorem sumS_bnd {B : Int} (hB : 0 ≤ B) : ∀ l : List TEntry, bndE B l → bndE (B * (l.length : Int)) (sumS l)
  | [], _ => fun e he => by cases he
  | e :: l, h => by
    have ih := sumS_bnd hB l (fun x hx => h x (List.mem_cons_of_mem _ hx))
    have hn : 0 ≤ B * (l.length : Int) := Int.mul_nonneg hB (by omega)
    have e1 : B * ((e :: l).length : Int) = B + B * (l.length : Int) := by rw [List.length_cons]; push_cast; rw [Int.mul_add]; omega
    rw [e1]
    unfold sumS
    split
    · intro x hx; have := ih x hx; omega
    · exact mergeS_bnd hB hn [e] (sumS l) (fun x hx => by rw [List.mem_singleton] at hx; subst hx; exact h x (List.mem_cons_self ..)) ih
end Go.Proofs.YtjhnpaenhdbhpabV
set_option linter.unusedVariables false
set_option linter.unusedSimpArgs false
namespace Go.Proofs.YtjhnpaenhdbhpabV
open Go Go.RowKit
theorem ref01_CompareRows_ev (xs ys : List TValue) (hx : xs.length ≤ 9223372036854775807) : Ev (fun k => erasureref01_CompareRows k xs ys) (cmpR xs ys) := by
  unfold erasureref01_CompareRows
  refine (loop_down (P := fun i => i ≤ ys.length → Ev (fun k => erasureref01_CompareRows.p1 k xs ys (i : Int)) (cmpR (xs.drop i) (ys.drop i))) xs.length ?_ ?_ 0 (by omega)) (by omega)
  · intro hy
    refine Ev.succ ?_
    simp only [erasureref01_CompareRows.p1, decide_eq_true_eq]
    rw [List.drop_length, nil_cmpR, List.length_drop]
    refine Ev.ite_neg (by omega) ?_
    by_cases h : xs.length < ys.length
    · exact Ev.ite_pos (by omega) (Ev.done (by rw [if_neg (by omega)]))
    · exact Ev.ite_neg (by omega) (Ev.ite_neg (by omega) (Ev.done (by rw [if_pos (by omega)])))
  · intro i hi ih hy
    refine Ev.succ ?_
    simp only [erasureref01_CompareRows.p1, decide_eq_true_eq, ref01_Compare_eq, Option.bind_some, bne_iff_ne, ne_eq, ite_not]
    refine Ev.ite_pos (by omega) ?_
    by_cases h : i < ys.length
    · refine Ev.ite_pos (by omega) (Ev.ite_pos (by omega) (Ev.ite_pos (by omega) ?_))
      rw [dV hi, dV h, wrn hi hx]
      unfold cmpR
      by_cases hc : cmpV (xs.getD (i : Int).toNat dValue) (ys.getD (i : Int).toNat dValue) = 0
      · rw [if_pos hc]; exact Ev.ite_pos hc (ih (by omega))
      · rw [if_neg hc]; exact Ev.ite_neg hc (Ev.now _)
    · rw [List.drop_eq_nil_of_le (show ys.length ≤ i by omega), cmpR_nil, List.length_drop]
      exact (Ev.ite_neg (by omega) (Ev.ite_neg (by omega) (Ev.ite_pos (by omega) (Ev.now (1 : Int))))).to (by rw [if_neg (by omega)])
theorem ref01_ValidRow_ev (l : List TValue) : Ev (fun k => erasureref01_ValidRow k l) (okRow l) := by
  unfold erasureref01_ValidRow okRow
  simp only [decide_eq_true_eq]
  by_cases hl : l.length ≤ 16
  · refine Ev.ite_neg (by omega) ?_
    rw [decide_eq_true hl, Bool.and_true]
    refine (loop_down (P := fun i => Ev (fun k => erasureref01_ValidRow.p1 k l (i : Int)) ((l.drop i).all okV)) l.length ?_ ?_ 0 (by omega))
    · refine Ev.succ ?_
      simp only [erasureref01_ValidRow.p1, decide_eq_true_eq]
      rw [List.drop_length]
      exact Ev.ite_neg (by omega) (Ev.now _)
    · intro i hi ih
      refine Ev.succ ?_
      simp only [erasureref01_ValidRow.p1, ref01_Valid_eq, Option.bind_some, decide_eq_true_eq]
      refine Ev.ite_pos (by omega) (Ev.ite_pos (by omega) ?_)
      rw [dV hi, wrn hi (by omega), List.all_cons]
      cases hc : okV (l.getD (i : Int).toNat dValue) with
      | true => exact Ev.ite_neg (by simp) ih
      | false => exact Ev.ite_pos rfl (Ev.now _)
  · rw [decide_eq_false hl, Bool.and_false]
    exact Ev.ite_pos (by omega) (Ev.now _)
theorem ref06_countOK_eq (k : Nat) (n : Int) : erasureref06_countOK k n = some (decide (-262144 ≤ n ∧ n ≤ 262144)) := by
  unfold erasureref06_countOK
  simp only [decide_eq_true_eq]
  by_cases h : n ≥ -262144
  · rw [if_pos h]; simp; omega
  · rw [if_neg h]; simp; omega
theorem ref06_Valid_ev (l : List TEntry) (hl : Fin l) : Ev (fun k => erasureref06_Valid k l) (bagV l) := by
  unfold erasureref06_Valid bagV
  simp only [decide_eq_true_eq]
  by_cases hn : l.length ≤ 4096
  · rw [decide_eq_true hn, Bool.and_true]
    refine Ev.ite_neg (by omega) ?_
    refine (loop_down (P := fun i => Ev (fun k => erasureref06_Valid.p1 k l (i : Int)) (bvF (prevE l i) (l.drop i))) l.length ?_ ?_ 0 (by omega))
    · refine Ev.succ ?_
      simp only [erasureref06_Valid.p1, decide_eq_true_eq]
      rw [List.drop_length]
      refine Ev.ite_neg (by omega) (Ev.done ?_)
      simp [bvF]
    · intro i hi ih
      have hp : prevE l (i + 1) = some (l.getD (i : Int).toNat dEntry) := by simp [prevE]
      rw [hp] at ih
      refine Ev.succ ?_
      simp only [erasureref06_Valid.p1, ref06_countOK_eq, Option.bind_some, decide_eq_true_eq, beq_iff_eq]
      refine Ev.ite_pos (by omega) (Ev.ite_pos (by omega) (Ev.bind (ref01_ValidRow_ev _) ?_))
      rw [dE hi, wrn hi hl.1]
      cases hc : okRow (l.getD (i : Int).toNat dEntry).f0 with
      | false => refine Ev.ite_pos rfl (Ev.done ?_); unfold bvF; cases prevE l i <;> simp only [okE, hc, Bool.false_and]
      | true =>
        refine Ev.ite_neg (by simp) ?_
        by_cases hk : (-262144 ≤ (l.getD (i : Int).toNat dEntry).f1 ∧ (l.getD (i : Int).toNat dEntry).f1 ≤ 262144)
        · rw [decide_eq_true hk]
          refine Ev.ite_neg (by simp) ?_
          have hE : okE (l.getD (i : Int).toNat dEntry) = true := by unfold okE; rw [hc, decide_eq_true hk]; rfl
          by_cases hz : (l.getD (i : Int).toNat dEntry).f1 = 0
          · refine Ev.ite_pos hz (Ev.done ?_); unfold bvF; cases prevE l i <;> simp only [hz, decide_true, Bool.not_true, Bool.and_false, Bool.false_and]
          · refine Ev.ite_neg hz ?_
            by_cases h0 : i = 0
            · subst h0
              refine Ev.ite_neg (by omega) (ih.to ?_)
              simp only [prevE, if_true, bvF, hE, decide_eq_false hz, Bool.not_false, Bool.and_self, Bool.true_and]
            · have hl1 := hl.1
              rw [wrp (by omega) (by omega)]
              refine Ev.ite_pos (by omega) (Ev.ite_pos (by omega) (Ev.bind (ref01_CompareRows_ev _ _ (hl.at (show i - 1 < l.length by omega))) ?_))
              simp only [prevE, if_neg h0, bvF, hE, decide_eq_false hz, Bool.not_false, Bool.true_and]
              by_cases hcmp : cmpR (l.getD ((i - 1 : Nat) : Int).toNat dEntry).f0 (l.getD (i : Int).toNat dEntry).f0 < 0
              · rw [decide_eq_true hcmp]; exact Ev.ite_neg (by omega) (by simpa using ih)
              · rw [decide_eq_false hcmp]; exact Ev.ite_pos (by omega) (Ev.now _)
        · rw [decide_eq_false hk]
          refine Ev.ite_pos rfl (Ev.done ?_); unfold bvF; cases prevE l i <;> simp only [okE, hc, decide_eq_false hk, Bool.and_false, Bool.false_and]
  · rw [decide_eq_false hn, Bool.and_false]
    exact Ev.ite_pos (by omega) (Ev.now _)
end Go.Proofs.YtjhnpaenhdbhpabV
set_option linter.unusedVariables false
set_option linter.unusedSimpArgs false
namespace Go.Proofs.YtjhnpaenhdbhpabV
open Go Go.RowKit
theorem drop_out {α : Type} {l : List α} {i : Nat} (h : ¬ i < l.length) : l.drop i = [] := List.drop_eq_nil_of_le (by omega)
theorem fin_at {l : List TEntry} (h : Fin l) {i : Nat} (hi : i < l.length) : (l.getD (i : Int).toNat dEntry).f0.length ≤ 9223372036854775807 := h.2 _ (getD_mem dEntry hi)
theorem ref06_merge_ev (a b : List TEntry) {A B : Int} (fa : Fin a) (ha : bndE A a) (hb : bndE B b) (hAB : 0 ≤ A ∧ 0 ≤ B ∧ A + B ≤ 4611686018427387904) (hl : a.length + b.length ≤ 1099511627776) : Ev (fun k => erasureref06_merge k a b) (mergeS a b) := by
  have key : ∀ n i j : Nat, i ≤ a.length → j ≤ b.length → (a.length - i) + (b.length - j) ≤ n → ∀ out : List TEntry, out.length ≤ i + j → Ev (fun k => erasureref06_merge.p1 k a b (i : Int) (j : Int) out) (out ++ mergeS (a.drop i) (b.drop j)) := by
    intro n
    induction n with
    | zero =>
      intro i j hi hj hn out ho
      refine Ev.succ ?_
      simp only [erasureref06_merge.p1, decide_eq_true_eq]
      rw [drop_out (l := a) (by omega), mergeS_nil, drop_out (l := b) (by omega), List.append_nil]
      exact Ev.ite_neg (by omega) (Ev.ite_neg (by omega) (Ev.now _))
    | succ n ih =>
      intro i j hi hj hn out ho
      have oneE : ∀ (x : TEntry), (out.length + [x].length ≤ maxLen ∧ (out.length + [x].length) * 32 ≤ 140737488355328) := by
        intro x; simp only [maxLen, List.length_singleton]; omega
      refine Ev.succ ?_
      simp only [erasureref06_merge.p1, decide_eq_true_eq, beq_iff_eq]
      by_cases h1 : i < a.length
      · rw [dE h1, wrn h1 (by omega)]
        refine Ev.ite_pos (by omega) (Ev.ite_neg (by omega) ?_)
        by_cases h2 : j < b.length
        · rw [dE h2, wrn h2 (by omega), mergeS_cons]
          refine Ev.ite_neg (by omega) (Ev.ite_pos (by omega) (Ev.ite_pos (by omega) (Ev.bind (ref01_CompareRows_ev _ _ (fin_at fa h1)) ?_)))
          by_cases h3 : cmpR (a.getD (i : Int).toNat dEntry).f0 (b.getD (j : Int).toNat dEntry).f0 < 0
          · rw [if_pos h3]
            refine Ev.ite_pos h3 (Ev.ite_pos (oneE _) ((ih (i + 1) j (by omega) hj (by omega) _ (by simp; omega)).to ?_))
            rw [dE h2, List.append_assoc]; rfl
          · rw [if_neg h3]
            refine Ev.ite_neg h3 ?_
            by_cases h4 : 0 < cmpR (a.getD (i : Int).toNat dEntry).f0 (b.getD (j : Int).toNat dEntry).f0
            · rw [if_pos h4]
              refine Ev.ite_pos h4 (Ev.ite_pos (oneE _) ((ih i (j + 1) hi (by omega) (by omega) _ (by simp; omega)).to ?_))
              rw [dE h1, List.append_assoc]; rfl
            · rw [if_neg h4]
              refine Ev.ite_neg h4 ?_
              have q1 := ha _ (getD_mem dEntry h1)
              have q2 := hb _ (getD_mem dEntry h2)
              rw [wr (n := (a.getD (i : Int).toNat dEntry).f1 + (b.getD (j : Int).toNat dEntry).f1) (by omega)]
              by_cases h5 : (a.getD (i : Int).toNat dEntry).f1 + (b.getD (j : Int).toNat dEntry).f1 ≠ 0
              · rw [if_pos h5]
                refine Ev.ite_pos (by simpa using h5) (Ev.ite_pos (oneE _) ((ih (i + 1) (j + 1) (by omega) (by omega) (by omega) _ (by simp; omega)).to ?_))
                rw [List.append_assoc]; rfl
              · rw [if_neg h5]
                exact Ev.ite_neg (by simpa using h5) (ih (i + 1) (j + 1) (by omega) (by omega) (by omega) _ (by omega))
        · rw [drop_out h2, mergeS_nil']
          refine Ev.ite_pos (by omega) (Ev.ite_pos (by omega) (Ev.ite_pos (by omega) (Ev.ite_pos (oneE _) ((ih (i + 1) j (by omega) hj (by omega) _ (by simp; omega)).to ?_))))
          rw [drop_out h2, mergeS_nil', List.append_assoc]; rfl
      · by_cases h2 : ¬ j < b.length
        · rw [drop_out h1, mergeS_nil, drop_out h2, List.append_nil]
          exact Ev.ite_neg (by omega) (Ev.ite_neg (by omega) (Ev.now _))
        have h2 : j < b.length := by omega
        rw [drop_out h1, mergeS_nil, dE h2, wrn h2 (by omega)]
        refine Ev.ite_neg (by omega) (Ev.ite_pos (by omega) (Ev.ite_pos (by omega) (Ev.ite_neg (by omega) (Ev.ite_pos (by omega) (Ev.ite_pos (by omega) (Ev.ite_pos (oneE _) ((ih i (j + 1) hi (by omega) (by omega) _ (by simp; omega)).to ?_)))))))
        rw [drop_out h1, mergeS_nil, List.append_assoc]; rfl
  unfold erasureref06_merge
  have := key (a.length + b.length) 0 0 (by omega) (by omega) (by omega) [] (by simp)
  simpa using this
theorem sum_split (a b : List TEntry) (ha : okRws a) (hb : okRws b) : mergeS (sumS a) (sumS b) = sumS (a ++ b) := by
  have hab : okRws (a ++ b) := fun e he => (List.mem_append.1 he).elim (ha e) (hb e)
  obtain ⟨a1, a2⟩ := sumS_nf a ha
  obtain ⟨b1, b2⟩ := sumS_nf b hb
  obtain ⟨c1, c2⟩ := sumS_nf (a ++ b) hab
  obtain ⟨m1, m2⟩ := mergeS_nf _ _ a1 b1
  exact NF_ext m1 c1 (fun r hr => by rw [m2 r hr, a2 r hr, b2 r hr, c2 r hr, cnt_append])
theorem nf_fin {l : List TEntry} (h : okRws l) (hl : l.length ≤ 1099511627776) : Fin l := ⟨by omega, fun e he => by have := okRow_len (h e he); omega⟩
theorem ref06_sort_ev {B : Int} (hB : 0 ≤ B) : ∀ (n : Nat) (l : List TEntry), l.length ≤ n → okRws l → bndE B l → B * (l.length : Int) ≤ 4611686018427387904 → l.length ≤ 1099511627776 → Ev (fun k => erasureref06_sort k l) (sumS l)
  | 0, l, hn, _, _, _, _ => by
    have : l = [] := List.length_eq_zero_iff.1 (by omega)
    subst this
    refine Ev.succ ?_
    simp only [erasureref06_sort]
    exact Ev.ite_pos rfl (Ev.now _)
  | n + 1, l, hn, ho, hb, hm, hl => by
    refine Ev.succ ?_
    simp only [erasureref06_sort, beq_iff_eq]
    by_cases h0 : l.length = 0
    · have : l = [] := List.length_eq_zero_iff.1 h0
      subst this
      exact Ev.ite_pos rfl (Ev.now _)
    refine Ev.ite_neg (by omega) ?_
    by_cases h1 : l.length = 1
    · obtain ⟨e, rfl⟩ := List.length_eq_one_iff.1 h1
      refine Ev.ite_pos rfl (Ev.ite_pos (by simp) ?_)
      by_cases h2 : e.f1 = 0
      · exact Ev.ite_pos h2 (Ev.done (by simp [sumS, h2]))
      · exact Ev.ite_neg h2 (Ev.done (by simp [sumS, h2, mergeS_nil']))
    refine Ev.ite_neg (by omega) ?_
    have hq : IntKind.i64.wrap ((l.length : Int).tdiv 2) = ((l.length / 2 : Nat) : Int) := by
      rw [show (l.length : Int).tdiv 2 = ((l.length / 2 : Nat) : Int) from rfl]
      exact wr (by omega)
    rw [hq]
    generalize hh : l.length / 2 = m
    have m1 : m < l.length := by omega
    have m0 : 0 < m := by omega
    have e1 : subL l (0 : Int) (m : Int) = l.take m := by simp [subL]
    have e2 : subL l (m : Int) (l.length : Int) = l.drop m := by simp [subL]
    rw [e1, e2]
    have o1 : okRws (l.take m) := fun e he => ho e (List.mem_of_mem_take he)
    have o2 : okRws (l.drop m) := fun e he => ho e (List.mem_of_mem_drop he)
    have b1 : bndE B (l.take m) := fun e he => hb e (List.mem_of_mem_take he)
    have b2 : bndE B (l.drop m) := fun e he => hb e (List.mem_of_mem_drop he)
    have l1 : (l.take m).length = m := by simp; omega
    have l2 : (l.drop m).length = l.length - m := by simp
    have s1 : B * ((l.take m).length : Int) + B * ((l.drop m).length : Int) = B * (l.length : Int) := by
      rw [← Int.mul_add, l1, l2]; congr 1; omega
    have p1 : 0 ≤ B * ((l.take m).length : Int) := Int.mul_nonneg hB (by omega)
    have p2 : 0 ≤ B * ((l.drop m).length : Int) := Int.mul_nonneg hB (by omega)
    refine Ev.ite_pos (by omega) (Ev.bind (ref06_sort_ev hB n _ (by omega) o1 b1 (by omega) (by omega)) (Ev.ite_pos (by omega) (Ev.bind (ref06_sort_ev hB n _ (by omega) o2 b2 (by omega) (by omega)) ?_)))
    have n1 := sumS_len (l.take m)
    have n2 := sumS_len (l.drop m)
    have := ref06_merge_ev (sumS (l.take m)) (sumS (l.drop m)) (nf_fin (sumS_nf _ o1).1.1 (by omega)) (sumS_bnd hB _ b1) (sumS_bnd hB _ b2) (by omega) (by omega)
    rw [sum_split _ _ o1 o2, List.take_append_drop] at this
    exact Ev.bind this (Ev.now _)
def okN (n : Int) : Bool := decide (-262144 ≤ n ∧ n ≤ 262144)
def fitS (l : List TEntry) : List TEntry × Int := if (l.length : Int) > 4096 then ([], 8) else if l.all (fun e => okN e.f1) then (l, 0) else ([], 9)
def normS (l : List TEntry) : List TEntry × Int := if l.all okE then fitS (sumS l) else ([], 1)
theorem ref06_fits_ev (l : List TEntry) : Ev (fun k => erasureref06_fits k l) (fitS l) := by
  unfold erasureref06_fits fitS
  simp only [decide_eq_true_eq]
  by_cases h0 : (l.length : Int) > 4096
  · rw [if_pos h0]; exact Ev.ite_pos h0 (Ev.now _)
  rw [if_neg h0]
  refine Ev.ite_neg h0 ?_
  refine (loop_down (P := fun i => Ev (fun k => erasureref06_fits.p1 k l (i : Int)) (if (l.drop i).all (fun e => okN e.f1) then (l, 0) else ([], 9))) l.length ?_ ?_ 0 (by omega))
  · refine Ev.succ ?_
    simp only [erasureref06_fits.p1, decide_eq_true_eq]
    exact Ev.ite_neg (by omega) (Ev.done (by simp))
  · intro i hi ih
    refine Ev.succ ?_
    simp only [erasureref06_fits.p1, decide_eq_true_eq, ref06_countOK_eq, Option.bind_some]
    rw [dE hi, wrn hi (by omega), List.all_cons]
    refine Ev.ite_pos (by omega) (Ev.ite_pos (by omega) ?_)
    unfold okN at *
    by_cases h : -262144 ≤ (l.getD (i : Int).toNat dEntry).f1 ∧ (l.getD (i : Int).toNat dEntry).f1 ≤ 262144
    · rw [decide_eq_true h]; exact Ev.ite_neg (by simp) (ih.to (by simp))
    · rw [decide_eq_false h]; exact Ev.ite_pos rfl (Ev.done (by simp))
theorem okE_and (e : TEntry) : okE e = (okRow e.f0 && okN e.f1) := rfl
theorem all_ok {l : List TEntry} (h : l.all okE = true) : okRws l ∧ bndE 262144 l := by
  rw [List.all_eq_true] at h
  exact ⟨fun e he => (okE_rng (h e he)).1, fun e he => (okE_rng (h e he)).2⟩
theorem ref06_Normalize_ev (l : List TEntry) (hl : l.length ≤ 1073741824) : Ev (fun k => erasureref06_Normalize k l) (normS l) := by
  unfold erasureref06_Normalize
  have key : ∀ i, i ≤ l.length → (l.all okE = true → True) → ((l.take i).all okE = true) → Ev (fun k => erasureref06_Normalize.p1 k l (i : Int)) (normS l) := by
    refine loop_down (P := fun i => (l.all okE = true → True) → ((l.take i).all okE = true) → Ev (fun k => erasureref06_Normalize.p1 k l (i : Int)) (normS l)) l.length ?_ ?_
    · intro _ h
      rw [List.take_length] at h
      refine Ev.succ ?_
      simp only [erasureref06_Normalize.p1, decide_eq_true_eq]
      obtain ⟨h1, h2⟩ := all_ok h
      refine Ev.ite_neg (by omega) (Ev.bind (ref06_sort_ev (B := 262144) (by omega) l.length l (by omega) h1 h2 (by omega) (by omega)) (Ev.bind (ref06_fits_ev _) (Ev.done ?_)))
      unfold normS
      rw [if_pos h]
    · intro i hi ih _ h
      refine Ev.succ ?_
      simp only [erasureref06_Normalize.p1, decide_eq_true_eq, ref06_countOK_eq, Option.bind_some]
      refine Ev.ite_pos (by omega) (Ev.ite_pos (by omega) (Ev.bind (ref01_ValidRow_ev _) ?_))
      rw [wrn hi (by omega)]
      have hbad : okE (l.getD (i : Int).toNat dEntry) = false → normS l = ([], 1) := by
        intro hb
        unfold normS
        rw [if_neg]
        intro ha
        rw [List.all_eq_true] at ha
        rw [ha _ (getD_mem dEntry hi)] at hb
        cases hb
      cases h1 : okRow (l.getD (i : Int).toNat dEntry).f0 with
      | false => exact Ev.ite_pos rfl (Ev.done (hbad (by rw [okE_and, h1]; rfl)).symm)
      | true =>
        refine Ev.ite_neg (by simp) ?_
        cases h2 : okN (l.getD (i : Int).toNat dEntry).f1 with
        | false =>
          refine Ev.ite_pos ?_ (Ev.done (hbad (by rw [okE_and, h2, Bool.and_false])).symm)
          unfold okN at h2; rw [h2]; rfl
        | true =>
          refine Ev.ite_neg ?_ (ih (fun _ => trivial) ?_)
          · unfold okN at h2; rw [h2]; simp
          · have : l.take (i + 1) = l.take i ++ [l.getD (i : Int).toNat dEntry] := by rw [List.take_succ_eq_append_getElem hi]; simp [hi]
            rw [this, List.all_append, h]
            simp only [List.all_cons, List.all_nil, okE_and, h1, h2]; rfl
  exact key 0 (by omega) (fun _ => trivial) (by simp)
theorem fitS_ok {l b : List TEntry} (h : NF l) (e : fitS l = (b, 0)) : b = l ∧ bagV l = true := by
  unfold fitS at e
  split at e
  · simp at e
  · rename_i h0
    split at e
    · rename_i h1
      refine ⟨by simpa using e.symm, bagV_iff.2 ⟨fun x hx => ⟨?_, h.2.1 x hx⟩, h.2.2, by omega⟩⟩
      rw [okE_and, h.1 x hx, List.all_eq_true.1 h1 x hx]; rfl
    · simp at e
theorem normS_ok {l : List TEntry} (h : (normS l).2 = 0) : (normS l).1 = sumS l ∧ bagV (sumS l) = true := by
  unfold normS at h ⊢
  split at h
  · rename_i ha
    rw [if_pos ha]
    have := fitS_ok (sumS_nf l (all_ok ha).1).1 (b := (fitS (sumS l)).1) (by rw [← h])
    exact this
  · simp at h
end Go.Proofs.YtjhnpaenhdbhpabV
set_option linter.unusedVariables false
set_option linter.unusedSimpArgs false
set_option maxRecDepth 100000
namespace Go.Proofs.YtjhnpaenhdbhpabV
open Go Go.RowKit
noncomputable def erasureref26_SameRow  (k : Nat) (a0 : (List TValue)) (b1 : (List TValue)) : Option Bool := (erasureref22_SameRow k a0 b1).bind fun y_1 => (some y_1)
noncomputable def erasureref26_SameRow.t : List Item := [.code (bodyOf Try.f33)]
noncomputable def erasureref26_SameRow.s (a0 : (List TValue)) (b1 : (List TValue)) : St := ⟨frOf Try.f33.ntmps 0 [(0, .p (eL 3 cValue dValue a0)), (1, .p (eL 3 cValue dValue b1))], []⟩
theorem erasureref26_SameRow.run   {k : Nat} {a0 : (List TValue)} {b1 : (List TValue)} {r : Bool} (h : erasureref26_SameRow k a0 b1 = some r) : RunC Try.prog Try.f33 erasureref26_SameRow.t (erasureref26_SameRow.s a0 b1) (.p (.bool r)) [] := by
  unfold erasureref26_SameRow at h
  obtain ⟨y_1, e_2, h⟩ := bind_or h
  obtain rfl := Option.some.inj h
  exact RunC.out [.n 3, .r [(2, .call (.p (.bool y_1)) [])]] (by kernel_rfl) (Obs.of (by kernel_rfl) (erasureref22_SameRow.spec e_2))
theorem erasureref26_SameRow.mono   : ∀ (k k' : Nat) (a0 : (List TValue)) (b1 : (List TValue)) (r : Bool), k ≤ k' → erasureref26_SameRow k a0 b1 = some r → erasureref26_SameRow k' a0 b1 = some r := by
  intro k k' a0 b1 r hk h
  unfold erasureref26_SameRow at h ⊢
  obtain ⟨y_1, e_2, h⟩ := bind_or h
  refine bnd (erasureref22_SameRow.mono _ _ _ _ _ hk e_2) ?_
  exact h
theorem erasureref26_SameRow.spec {k : Nat} {a0 : (List TValue)} {b1 : (List TValue)} {r : Bool} (h : erasureref26_SameRow k a0 b1 = some r) : Spec Try.prog 33 [.p (eL 3 cValue dValue a0), .p (eL 3 cValue dValue b1)] (.p (.bool r)) [] :=
  spec_of mix Try.func33 (body := bodyOf Try.f33) (by kernel_rfl) (by kernel_rfl) (erasureref26_SameRow.run h)
end Go.Proofs.YtjhnpaenhdbhpabV
set_option linter.unusedVariables false
set_option linter.unusedSimpArgs false
set_option maxRecDepth 100000
namespace Go.Proofs.YtjhnpaenhdbhpabV
open Go Go.RowKit
noncomputable def erasurelaw30_CacheParts.p3 (rec2 : (List TEntry) → Int → (List TEntry) → Option Bool) : Nat → (List TEntry) → Int → Int → Int → (List TEntry) → Option Bool
  | 0, _, _, _, _, _ => none
  | k + 1, rows0, i8, n9, k10, all5 => if (decide (k10 < ((all5).length : Int))) = true then (if 0 ≤ k10 ∧ k10 < ((all5).length : Int) then (if 0 ≤ i8 ∧ i8 < ((rows0).length : Int) then (if ((all5.getD k10.toNat dEntry).f1 == (rows0.getD i8.toNat dEntry).f1) = true then ((erasureref26_SameRow k ((all5.getD k10.toNat dEntry).f0) ((rows0.getD i8.toNat dEntry).f0)).bind fun y_19 => (if y_19 = true then (erasurelaw30_CacheParts.p3 rec2 k rows0 i8 (IntKind.i64.wrap (n9 + 1)) (IntKind.i64.wrap (k10 + 1)) all5) else (erasurelaw30_CacheParts.p3 rec2 k rows0 i8 n9 (IntKind.i64.wrap (k10 + 1)) all5))) else (erasurelaw30_CacheParts.p3 rec2 k rows0 i8 n9 (IntKind.i64.wrap (k10 + 1)) all5)) else none) else none) else (if (n9 == 0) = true then (some false) else (rec2 rows0 (IntKind.i64.wrap (i8 + 1)) all5))
noncomputable def erasurelaw30_CacheParts.p2  : Nat → (List TEntry) → Int → (List TEntry) → Option Bool
  | 0, _, _, _ => none
  | k + 1, rows0, i8, all5 => if (decide (i8 < ((rows0).length : Int))) = true then (erasurelaw30_CacheParts.p3 (erasurelaw30_CacheParts.p2 k) k rows0 i8 0 0 all5) else ((erasurelaw30_awake k ).bind fun y_23 => (some y_23))
noncomputable def erasurelaw30_CacheParts.p1  : Nat → (List TEntry) → Int → Int → (List TEntry) → (List TValue) → Option Bool
  | 0, _, _, _, _, _ => none
  | k + 1, rows0, column1, i7, all5, l6 => if (decide (i7 < ((l6).length : Int))) = true then (if 0 ≤ i7 ∧ i7 < ((l6).length : Int) then ((cache_Select k rows0 column1 (l6.getD i7.toNat dValue)).bind fun y_10 => (if (all5).length + (y_10).length ≤ maxLen ∧ ((all5).length + (y_10).length) * 32 ≤ 140737488355328 then (erasurelaw30_CacheParts.p1 k rows0 column1 (IntKind.i64.wrap (i7 + 1)) (all5 ++ y_10) l6) else none)) else none) else (if (((all5).length : Int) != ((rows0).length : Int)) = true then (some false) else (erasurelaw30_CacheParts.p2 k rows0 0 all5))
noncomputable def erasurelaw30_CacheParts  (k : Nat) (rows0 : (List TEntry)) (column1 : Int) : Option Bool := (erasurelaw30_short k rows0).bind fun y_1 => (if (!y_1) = true then ((erasurelaw30_awake k ).bind fun y_4 => (some y_4)) else ((cache_Touched k rows0 ([] : List TEntry) column1).bind fun y_6 => (erasurelaw30_CacheParts.p1 k rows0 column1 0 ([] : List TEntry) y_6)))
noncomputable def erasurelaw30_CacheParts.t : List Item := [.code (bodyOf Try.f8)]
noncomputable def erasurelaw30_CacheParts.s (rows0 : (List TEntry)) (column1 : Int) : St := ⟨frOf Try.f8.ntmps 0 [(0, .p (eL 2 cEntry dEntry rows0)), (1, .p (.int .i64 column1))], []⟩
noncomputable def erasurelaw30_CacheParts.p1.t : List Item := nav 16 [false] erasurelaw30_CacheParts.t
noncomputable def erasurelaw30_CacheParts.p1.s (rows0 : (List TEntry)) (column1 : Int) (i7 : Int) (all5 : (List TEntry)) (l6 : (List TValue)) : St := ⟨frOf Try.f8.ntmps 0 [(0, .p (eL 2 cEntry dEntry rows0)), (1, .p (.int .i64 column1)), (5, .sref 0 36 2 (all5).length), (6, .sref 1 24 3 (l6).length), (7, .p (.int .i64 i7))], [(oL true 36 2 cEntry dEntry all5), (oL true 24 3 cValue dValue l6)]⟩
noncomputable def erasurelaw30_CacheParts.p2.t : List Item := nav 15 [false, false] erasurelaw30_CacheParts.p1.t
noncomputable def erasurelaw30_CacheParts.p2.s (rows0 : (List TEntry)) (i8 : Int) (all5 : (List TEntry)) : St := ⟨frOf Try.f8.ntmps 0 [(0, .p (eL 2 cEntry dEntry rows0)), (5, .sref 0 36 2 (all5).length), (8, .p (.int .i64 i8))], [(oL true 36 2 cEntry dEntry all5)]⟩
noncomputable def erasurelaw30_CacheParts.p3.t : List Item := nav 14 [true] erasurelaw30_CacheParts.p2.t
noncomputable def erasurelaw30_CacheParts.p3.s (rows0 : (List TEntry)) (i8 : Int) (n9 : Int) (k10 : Int) (all5 : (List TEntry)) : St := ⟨frOf Try.f8.ntmps 0 [(0, .p (eL 2 cEntry dEntry rows0)), (5, .sref 0 36 2 (all5).length), (8, .p (.int .i64 i8)), (9, .p (.int .i64 n9)), (10, .p (.int .i64 k10))], [(oL true 36 2 cEntry dEntry all5)]⟩
theorem erasurelaw30_CacheParts.p3.run {rec2 : (List TEntry) → Int → (List TEntry) → Option Bool} (hrec2 : ∀ (rows0 : (List TEntry)) (i8 : Int) (all5 : (List TEntry)) r, rec2 rows0 i8 all5 = some r → RunC Try.prog Try.f8 erasurelaw30_CacheParts.p2.t (erasurelaw30_CacheParts.p2.s rows0 i8 all5) (.p (.bool r)) []) : ∀ (k : Nat) (rows0 : (List TEntry)) (i8 : Int) (n9 : Int) (k10 : Int) (all5 : (List TEntry)) (r : Bool), erasurelaw30_CacheParts.p3 rec2 k rows0 i8 n9 k10 all5 = some r → RunC Try.prog Try.f8 erasurelaw30_CacheParts.p3.t (erasurelaw30_CacheParts.p3.s rows0 i8 n9 k10 all5) (.p (.bool r)) [] := by
  intro k
  induction k with
  | zero => intro rows0 i8 n9 k10 all5 r h; simp [erasurelaw30_CacheParts.p3] at h
  | succ k ih =>
    intro rows0 i8 n9 k10 all5 r h
    rw [erasurelaw30_CacheParts.p3] at h
    rcases ite_or h with ⟨g_15, h⟩ | ⟨g_15, h⟩
    · obtain ⟨g_16, h⟩ := ite_some h
      obtain ⟨g_17, h⟩ := ite_some h
      rcases ite_or h with ⟨g_18, h⟩ | ⟨g_18, h⟩
      · obtain ⟨y_19, e_20, h⟩ := bind_or h
        rcases ite_or h with ⟨g_21, h⟩ | ⟨g_21, h⟩
        · exact RunC.go [.n 2, .r [(3, .dec true)], .n 5, .r [(11, .dec true), (22, .call (.p (.bool y_19)) []), (23, .dec true)], .n 5, .k [0, 5, 8, 9, 10]] (by kernel_rfl) (Obs.of (by kernel_rfl) (And.intro g_15 (And.intro g_16 (And.intro g_17 (And.intro g_18 (And.intro g_16 (And.intro g_17 (And.intro (erasureref26_SameRow.spec e_20) g_21)))))))) (ih _ _ _ _ _ r h)
        · exact RunC.go [.n 2, .r [(3, .dec true)], .n 5, .r [(11, .dec true), (22, .call (.p (.bool y_19)) []), (23, .dec false)], .n 5, .k [0, 5, 8, 9, 10]] (by kernel_rfl) (Obs.of (by kernel_rfl) (And.intro g_15 (And.intro g_16 (And.intro g_17 (And.intro g_18 (And.intro g_16 (And.intro g_17 (And.intro (erasureref26_SameRow.spec e_20) (nt g_21))))))))) (ih _ _ _ _ _ r h)
      · exact RunC.go [.n 2, .r [(3, .dec true)], .n 5, .r [(11, .dec false)], .n 5, .k [0, 5, 8, 9, 10]] (by kernel_rfl) (Obs.of (by kernel_rfl) (And.intro g_15 (And.intro g_16 (And.intro g_17 (nt g_18))))) (ih _ _ _ _ _ r h)
    · rcases ite_or h with ⟨g_22, h⟩ | ⟨g_22, h⟩
      · obtain rfl := Option.some.inj h
        exact RunC.out [.n 2, .r [(3, .dec false)], .n 3, .r [(1, .dec true)], .n 3] (by kernel_rfl) (Obs.of (by kernel_rfl) (And.intro (nt g_15) g_22))
      · exact RunC.go [.n 2, .r [(3, .dec false)], .n 3, .r [(1, .dec false)], .n 5, .k [0, 5, 8]] (by kernel_rfl) (Obs.of (by kernel_rfl) (And.intro (nt g_15) (nt g_22))) (hrec2 _ _ _ r h)
theorem erasurelaw30_CacheParts.p2.run   : ∀ (k : Nat) (rows0 : (List TEntry)) (i8 : Int) (all5 : (List TEntry)) (r : Bool), erasurelaw30_CacheParts.p2 k rows0 i8 all5 = some r → RunC Try.prog Try.f8 erasurelaw30_CacheParts.p2.t (erasurelaw30_CacheParts.p2.s rows0 i8 all5) (.p (.bool r)) [] := by
  intro k
  induction k with
  | zero => intro rows0 i8 all5 r h; simp [erasurelaw30_CacheParts.p2] at h
  | succ k ih =>
    intro rows0 i8 all5 r h
    rw [erasurelaw30_CacheParts.p2] at h
    rcases ite_or h with ⟨g_14, h⟩ | ⟨g_14, h⟩
    · exact RunC.go [.n 2, .r [(3, .dec true)], .n 11, .k [0, 5, 8, 9, 10]] (by kernel_rfl) (Obs.of (by kernel_rfl) g_14) (erasurelaw30_CacheParts.p3.run ih k _ _ _ _ _ r h)
    · obtain ⟨y_23, e_24, h⟩ := bind_or h
      obtain rfl := Option.some.inj h
      exact RunC.out [.n 2, .r [(3, .dec false)], .n 3, .r [(0, .call (.p (.bool y_23)) [])]] (by kernel_rfl) (Obs.of (by kernel_rfl) (And.intro (nt g_14) (erasurelaw30_awake.spec e_24)))
theorem erasurelaw30_CacheParts.p1.run   : ∀ (k : Nat) (rows0 : (List TEntry)) (column1 : Int) (i7 : Int) (all5 : (List TEntry)) (l6 : (List TValue)) (r : Bool), erasurelaw30_CacheParts.p1 k rows0 column1 i7 all5 l6 = some r → RunC Try.prog Try.f8 erasurelaw30_CacheParts.p1.t (erasurelaw30_CacheParts.p1.s rows0 column1 i7 all5 l6) (.p (.bool r)) [] := by
  intro k
  induction k with
  | zero => intro rows0 column1 i7 all5 l6 r h; simp [erasurelaw30_CacheParts.p1] at h
  | succ k ih =>
    intro rows0 column1 i7 all5 l6 r h
    rw [erasurelaw30_CacheParts.p1] at h
    rcases ite_or h with ⟨g_8, h⟩ | ⟨g_8, h⟩
    · obtain ⟨g_9, h⟩ := ite_some h
      obtain ⟨y_10, e_11, h⟩ := bind_or h
      obtain ⟨g_12, h⟩ := ite_some h
      exact RunC.go [.n 2, .r [(3, .dec true)], .n 4, .r [(7, .call (.sref 0 36 2 (y_10).length) [(oL true 36 2 cEntry dEntry y_10)]), (8, .obj (oL true 36 2 cEntry dEntry (all5 ++ y_10)))], .n 3, .k [0, 1, 5, 6, 7]] (by kernel_rfl) (Obs.of (by kernel_rfl) (And.intro g_8 (And.intro g_9 (And.intro (cache_Select.spec e_11) (And.intro g_12 (le_app 36 2 cEntry dEntry all5 y_10)))))) (ih _ _ _ _ _ r h)
    · rcases ite_or h with ⟨g_13, h⟩ | ⟨g_13, h⟩
      · obtain rfl := Option.some.inj h
        exact RunC.out [.n 2, .r [(3, .dec false)], .n 4, .r [(4, .dec true)], .n 3] (by kernel_rfl) (Obs.of (by kernel_rfl) (And.intro (nt g_8) g_13))
      · exact RunC.go [.n 2, .r [(3, .dec false)], .n 4, .r [(4, .dec false)], .n 7, .k [0, 5, 8]] (by kernel_rfl) (Obs.of (by kernel_rfl) (And.intro (nt g_8) (nt g_13))) (erasurelaw30_CacheParts.p2.run k _ _ _ r h)
theorem erasurelaw30_CacheParts.run   {k : Nat} {rows0 : (List TEntry)} {column1 : Int} {r : Bool} (h : erasurelaw30_CacheParts k rows0 column1 = some r) : RunC Try.prog Try.f8 erasurelaw30_CacheParts.t (erasurelaw30_CacheParts.s rows0 column1) (.p (.bool r)) [] := by
  unfold erasurelaw30_CacheParts at h
  obtain ⟨y_1, e_2, h⟩ := bind_or h
  rcases ite_or h with ⟨g_3, h⟩ | ⟨g_3, h⟩
  · obtain ⟨y_4, e_5, h⟩ := bind_or h
    obtain rfl := Option.some.inj h
    exact RunC.out [.n 4, .r [(1, .call (.p (.bool y_1)) []), (2, .dec true)], .n 2, .r [(0, .call (.p (.bool y_4)) [])]] (by kernel_rfl) (Obs.of (by kernel_rfl) (And.intro (erasurelaw30_short.spec e_2) (And.intro g_3 (erasurelaw30_awake.spec e_5))))
  · obtain ⟨y_6, e_7, h⟩ := bind_or h
    exact RunC.go [.n 4, .r [(1, .call (.p (.bool y_1)) []), (2, .dec false)], .n 3, .r [(0, .obj (oL true 36 2 cEntry dEntry ([] : List TEntry)))], .n 1, .r [(2, .callL [.p (eL 2 cEntry dEntry rows0), .p (eL 2 cEntry dEntry ([] : List TEntry)), .p (.int .i64 column1)] (.sref 0 24 3 (y_6).length) [(oL true 24 3 cValue dValue y_6)])], .n 5, .k [0, 1, 5, 6, 7]] (by kernel_rfl) (Obs.of (by kernel_rfl) (And.intro (erasurelaw30_short.spec e_2) (And.intro (nt g_3) (And.intro (le_nil 36 2 cEntry dEntry) (And.intro (fls_cons (fle_rfl (.p (eL 2 cEntry dEntry rows0))) (fls_cons (fle_nil 2 cEntry dEntry) (fls_cons (fle_rfl (.p (.int .i64 column1))) fls_nil))) (cache_Touched.spec e_7)))))) (erasurelaw30_CacheParts.p1.run k _ _ _ _ _ r h)
theorem erasurelaw30_CacheParts.p3.mono {rec2 rec2' : (List TEntry) → Int → (List TEntry) → Option Bool} (hm2 : ∀ (rows0 : (List TEntry)) (i8 : Int) (all5 : (List TEntry)) r, rec2 rows0 i8 all5 = some r → rec2' rows0 i8 all5 = some r) : ∀ (k k' : Nat) (rows0 : (List TEntry)) (i8 : Int) (n9 : Int) (k10 : Int) (all5 : (List TEntry)) (r : Bool), k ≤ k' → erasurelaw30_CacheParts.p3 rec2 k rows0 i8 n9 k10 all5 = some r → erasurelaw30_CacheParts.p3 rec2' k' rows0 i8 n9 k10 all5 = some r := by
  intro k
  induction k with
  | zero => intro k' rows0 i8 n9 k10 all5 r hk h; simp [erasurelaw30_CacheParts.p3] at h
  | succ k ih =>
    intro k' rows0 i8 n9 k10 all5 r hk h
    obtain ⟨k', rfl⟩ : ∃ m, k' = m + 1 := ⟨k' - 1, by omega⟩
    replace hk := Nat.le_of_succ_le_succ hk
    rw [erasurelaw30_CacheParts.p3] at h ⊢
    rcases ite_or h with ⟨g_15, h⟩ | ⟨g_15, h⟩
    · refine itp g_15 ?_
      obtain ⟨g_16, h⟩ := ite_some h
      refine itp g_16 ?_
      obtain ⟨g_17, h⟩ := ite_some h
      refine itp g_17 ?_
      rcases ite_or h with ⟨g_18, h⟩ | ⟨g_18, h⟩
      · refine itp g_18 ?_
        obtain ⟨y_19, e_20, h⟩ := bind_or h
        refine bnd (erasureref26_SameRow.mono _ _ _ _ _ hk e_20) ?_
        rcases ite_or h with ⟨g_21, h⟩ | ⟨g_21, h⟩
        · refine itp g_21 ?_
          exact ih _ _ _ _ _ _ r hk h
        · refine itn g_21 ?_
          exact ih _ _ _ _ _ _ r hk h
      · refine itn g_18 ?_
        exact ih _ _ _ _ _ _ r hk h
    · refine itn g_15 ?_
      rcases ite_or h with ⟨g_22, h⟩ | ⟨g_22, h⟩
      · refine itp g_22 ?_
        exact h
      · refine itn g_22 ?_
        exact hm2 _ _ _ r h
theorem erasurelaw30_CacheParts.p2.mono   : ∀ (k k' : Nat) (rows0 : (List TEntry)) (i8 : Int) (all5 : (List TEntry)) (r : Bool), k ≤ k' → erasurelaw30_CacheParts.p2 k rows0 i8 all5 = some r → erasurelaw30_CacheParts.p2 k' rows0 i8 all5 = some r := by
  intro k
  induction k with
  | zero => intro k' rows0 i8 all5 r hk h; simp [erasurelaw30_CacheParts.p2] at h
  | succ k ih =>
    intro k' rows0 i8 all5 r hk h
    obtain ⟨k', rfl⟩ : ∃ m, k' = m + 1 := ⟨k' - 1, by omega⟩
    replace hk := Nat.le_of_succ_le_succ hk
    rw [erasurelaw30_CacheParts.p2] at h ⊢
    rcases ite_or h with ⟨g_14, h⟩ | ⟨g_14, h⟩
    · refine itp g_14 ?_
      exact erasurelaw30_CacheParts.p3.mono (fun x0 x1 x2 r h => ih _ x0 x1 x2 r hk h) _ _ _ _ _ _ _ r hk h
    · refine itn g_14 ?_
      obtain ⟨y_23, e_24, h⟩ := bind_or h
      refine bnd (erasurelaw30_awake.mono _ _  _ hk e_24) ?_
      exact h
theorem erasurelaw30_CacheParts.p1.mono   : ∀ (k k' : Nat) (rows0 : (List TEntry)) (column1 : Int) (i7 : Int) (all5 : (List TEntry)) (l6 : (List TValue)) (r : Bool), k ≤ k' → erasurelaw30_CacheParts.p1 k rows0 column1 i7 all5 l6 = some r → erasurelaw30_CacheParts.p1 k' rows0 column1 i7 all5 l6 = some r := by
  intro k
  induction k with
  | zero => intro k' rows0 column1 i7 all5 l6 r hk h; simp [erasurelaw30_CacheParts.p1] at h
  | succ k ih =>
    intro k' rows0 column1 i7 all5 l6 r hk h
    obtain ⟨k', rfl⟩ : ∃ m, k' = m + 1 := ⟨k' - 1, by omega⟩
    replace hk := Nat.le_of_succ_le_succ hk
    rw [erasurelaw30_CacheParts.p1] at h ⊢
    rcases ite_or h with ⟨g_8, h⟩ | ⟨g_8, h⟩
    · refine itp g_8 ?_
      obtain ⟨g_9, h⟩ := ite_some h
      refine itp g_9 ?_
      obtain ⟨y_10, e_11, h⟩ := bind_or h
      refine bnd (cache_Select.mono _ _ _ _ _ _ hk e_11) ?_
      obtain ⟨g_12, h⟩ := ite_some h
      refine itp g_12 ?_
      exact ih _ _ _ _ _ _ r hk h
    · refine itn g_8 ?_
      rcases ite_or h with ⟨g_13, h⟩ | ⟨g_13, h⟩
      · refine itp g_13 ?_
        exact h
      · refine itn g_13 ?_
        exact erasurelaw30_CacheParts.p2.mono _ _ _ _ _ r hk h
theorem erasurelaw30_CacheParts.mono   : ∀ (k k' : Nat) (rows0 : (List TEntry)) (column1 : Int) (r : Bool), k ≤ k' → erasurelaw30_CacheParts k rows0 column1 = some r → erasurelaw30_CacheParts k' rows0 column1 = some r := by
  intro k k' rows0 column1 r hk h
  unfold erasurelaw30_CacheParts at h ⊢
  obtain ⟨y_1, e_2, h⟩ := bind_or h
  refine bnd (erasurelaw30_short.mono _ _ _ _ hk e_2) ?_
  rcases ite_or h with ⟨g_3, h⟩ | ⟨g_3, h⟩
  · refine itp g_3 ?_
    obtain ⟨y_4, e_5, h⟩ := bind_or h
    refine bnd (erasurelaw30_awake.mono _ _  _ hk e_5) ?_
    exact h
  · refine itn g_3 ?_
    obtain ⟨y_6, e_7, h⟩ := bind_or h
    refine bnd (cache_Touched.mono _ _ _ _ _ _ hk e_7) ?_
    exact erasurelaw30_CacheParts.p1.mono _ _ _ _ _ _ _ r hk h
theorem erasurelaw30_CacheParts.spec {k : Nat} {rows0 : (List TEntry)} {column1 : Int} {r : Bool} (h : erasurelaw30_CacheParts k rows0 column1 = some r) : Spec Try.prog 8 [.p (eL 2 cEntry dEntry rows0), .p (.int .i64 column1)] (.p (.bool r)) [] :=
  spec_of mix Try.func8 (body := bodyOf Try.f8) (by kernel_rfl) (by kernel_rfl) (erasurelaw30_CacheParts.run h)
end Go.Proofs.YtjhnpaenhdbhpabV
set_option linter.unusedVariables false
set_option linter.unusedSimpArgs false
set_option maxRecDepth 100000
namespace Go.Proofs.YtjhnpaenhdbhpabV
open Go Go.RowKit
noncomputable def erasureref30_at  (k : Nat) (row0 : (List TValue)) (column1 : Int) : Option TValue := if (decide (column1 < 0)) = true then (some (TValue.mk 0 0 (⟨#[]⟩ : ByteArray))) else (if (decide (column1 ≥ ((row0).length : Int))) = true then (some (TValue.mk 0 0 (⟨#[]⟩ : ByteArray))) else (if 0 ≤ column1 ∧ column1 < ((row0).length : Int) then ((erasureref01_Clean k (row0.getD column1.toNat dValue)).bind fun y_4 => (some y_4)) else none))
noncomputable def erasureref30_at.t : List Item := [.code (bodyOf Try.f40)]
noncomputable def erasureref30_at.s (row0 : (List TValue)) (column1 : Int) : St := ⟨frOf Try.f40.ntmps 0 [(0, .p (eL 3 cValue dValue row0)), (1, .p (.int .i64 column1))], []⟩
theorem erasureref30_at.run   {k : Nat} {row0 : (List TValue)} {column1 : Int} {r : TValue} (h : erasureref30_at k row0 column1 = some r) : RunC Try.prog Try.f40 erasureref30_at.t (erasureref30_at.s row0 column1) (.agg ((cValue r).map .p)) [] := by
  unfold erasureref30_at at h
  rcases ite_or h with ⟨g_1, h⟩ | ⟨g_1, h⟩
  · obtain rfl := Option.some.inj h
    exact RunC.out [.n 4, .r [(2, .dec true)], .n 3] (by kernel_rfl) (Obs.of (by kernel_rfl) g_1)
  · rcases ite_or h with ⟨g_2, h⟩ | ⟨g_2, h⟩
    · obtain rfl := Option.some.inj h
      exact RunC.out [.n 4, .r [(2, .dec false), (7, .dec true)], .n 3] (by kernel_rfl) (Obs.of (by kernel_rfl) (And.intro (nt g_1) g_2))
    · obtain ⟨g_3, h⟩ := ite_some h
      obtain ⟨y_4, e_5, h⟩ := bind_or h
      obtain rfl := Option.some.inj h
      exact RunC.out [.n 4, .r [(2, .dec false), (7, .dec false)], .n 3, .r [(4, .call (.agg ((cValue y_4).map .p)) [])]] (by kernel_rfl) (Obs.of (by kernel_rfl) (And.intro (nt g_1) (And.intro (nt g_2) (And.intro g_3 (erasureref01_Clean.spec e_5)))))
theorem erasureref30_at.mono   : ∀ (k k' : Nat) (row0 : (List TValue)) (column1 : Int) (r : TValue), k ≤ k' → erasureref30_at k row0 column1 = some r → erasureref30_at k' row0 column1 = some r := by
  intro k k' row0 column1 r hk h
  unfold erasureref30_at at h ⊢
  rcases ite_or h with ⟨g_1, h⟩ | ⟨g_1, h⟩
  · refine itp g_1 ?_
    exact h
  · refine itn g_1 ?_
    rcases ite_or h with ⟨g_2, h⟩ | ⟨g_2, h⟩
    · refine itp g_2 ?_
      exact h
    · refine itn g_2 ?_
      obtain ⟨g_3, h⟩ := ite_some h
      refine itp g_3 ?_
      obtain ⟨y_4, e_5, h⟩ := bind_or h
      refine bnd (erasureref01_Clean.mono _ _ _ _ hk e_5) ?_
      exact h
theorem erasureref30_at.spec {k : Nat} {row0 : (List TValue)} {column1 : Int} {r : TValue} (h : erasureref30_at k row0 column1 = some r) : Spec Try.prog 40 [.p (eL 3 cValue dValue row0), .p (.int .i64 column1)] (.agg ((cValue r).map .p)) [] :=
  spec_of mix Try.func40 (body := bodyOf Try.f40) (by kernel_rfl) (by kernel_rfl) (erasureref30_at.run h)
end Go.Proofs.YtjhnpaenhdbhpabV
set_option linter.unusedVariables false
set_option linter.unusedSimpArgs false
set_option maxRecDepth 100000
namespace Go.Proofs.YtjhnpaenhdbhpabV
open Go Go.RowKit
noncomputable def erasureref30_Touched.p3 (rec1 : (List TEntry) → (List TEntry) → Int → Int → (List TValue) → Option (List TValue)) : Nat → (List TEntry) → (List TEntry) → Int → Int → Int → (List TValue) → Option (List TValue)
  | 0, _, _, _, _, _, _ => none
  | k + 1, minus0, plus1, column2, i8, k12, out7 => if (decide (k12 > 0)) = true then (if 0 ≤ k12 ∧ k12 < ((out7).length : Int) then (if 0 ≤ (IntKind.i64.wrap (k12 - 1)) ∧ (IntKind.i64.wrap (k12 - 1)) < ((out7).length : Int) then ((erasureref01_Compare k (out7.getD k12.toNat dValue) (out7.getD (IntKind.i64.wrap (k12 - 1)).toNat dValue)).bind fun y_14 => (if (decide (y_14 < 0)) = true then (erasureref30_Touched.p3 rec1 k minus0 plus1 column2 i8 (IntKind.i64.wrap (k12 - 1)) ((out7.set (IntKind.i64.wrap (k12 - 1)).toNat (out7.getD k12.toNat dValue)).set k12.toNat (out7.getD (IntKind.i64.wrap (k12 - 1)).toNat dValue))) else (rec1 minus0 plus1 column2 (IntKind.i64.wrap (i8 + 1)) out7))) else none) else none) else (rec1 minus0 plus1 column2 (IntKind.i64.wrap (i8 + 1)) out7)
noncomputable def erasureref30_Touched.p2 (rec1 : (List TEntry) → (List TEntry) → Int → Int → (List TValue) → Option (List TValue)) : Nat → (List TEntry) → (List TEntry) → Int → Int → Bool → Int → (List TValue) → TValue → Option (List TValue)
  | 0, _, _, _, _, _, _, _, _ => none
  | k + 1, minus0, plus1, column2, i8, found10, k11, out7, v9b => if (decide (k11 < ((out7).length : Int))) = true then (if found10 = true then (erasureref30_Touched.p2 rec1 k minus0 plus1 column2 i8 true (IntKind.i64.wrap (k11 + 1)) out7 v9b) else (if 0 ≤ k11 ∧ k11 < ((out7).length : Int) then (erasureref30_Touched.p2 rec1 k minus0 plus1 column2 i8 (((out7.getD k11.toNat dValue).f0 == v9b.f0) && (((out7.getD k11.toNat dValue).f1 == v9b.f1) && ((((out7.getD k11.toNat dValue).f2).data.toList == v9b.f2.data.toList) && true))) (IntKind.i64.wrap (k11 + 1)) out7 v9b) else none)) else (if found10 = true then (rec1 minus0 plus1 column2 (IntKind.i64.wrap (i8 + 1)) out7) else (if (out7).length + ([v9b]).length ≤ maxLen ∧ ((out7).length + ([v9b]).length) * 32 ≤ 140737488355328 then (erasureref30_Touched.p3 rec1 k minus0 plus1 column2 i8 (IntKind.i64.wrap ((((out7 ++ ([v9b]))).length : Int) - 1)) (out7 ++ ([v9b]))) else none))
noncomputable def erasureref30_Touched.p1  : Nat → (List TEntry) → (List TEntry) → Int → Int → (List TValue) → Option (List TValue)
  | 0, _, _, _, _, _ => none
  | k + 1, minus0, plus1, column2, i8, out7 => if (decide (i8 < (IntKind.i64.wrap (((minus0).length : Int) + ((plus1).length : Int))))) = true then (if (decide (i8 < ((minus0).length : Int))) = true then (if 0 ≤ i8 ∧ i8 < ((minus0).length : Int) then ((erasureref30_at k ((minus0.getD i8.toNat dEntry).f0) column2).bind fun y_4 => (erasureref30_Touched.p2 (erasureref30_Touched.p1 k) k minus0 plus1 column2 i8 false 0 out7 y_4)) else none) else (if 0 ≤ (IntKind.i64.wrap (i8 - ((minus0).length : Int))) ∧ (IntKind.i64.wrap (i8 - ((minus0).length : Int))) < ((plus1).length : Int) then ((erasureref30_at k ((plus1.getD (IntKind.i64.wrap (i8 - ((minus0).length : Int))).toNat dEntry).f0) column2).bind fun y_18 => (erasureref30_Touched.p2 (erasureref30_Touched.p1 k) k minus0 plus1 column2 i8 false 0 out7 y_18)) else none)) else (some out7)
noncomputable def erasureref30_Touched  (k : Nat) (minus0 : (List TEntry)) (plus1 : (List TEntry)) (column2 : Int) : Option (List TValue) := erasureref30_Touched.p1 k minus0 plus1 column2 0 ([] : List TValue)
noncomputable def erasureref30_Touched.t : List Item := [.code (bodyOf Try.f34)]
noncomputable def erasureref30_Touched.s (minus0 : (List TEntry)) (plus1 : (List TEntry)) (column2 : Int) : St := ⟨frOf Try.f34.ntmps 0 [(0, .p (eL 2 cEntry dEntry minus0)), (1, .p (eL 2 cEntry dEntry plus1)), (2, .p (.int .i64 column2))], []⟩
noncomputable def erasureref30_Touched.p1.t : List Item := nav 9 [] erasureref30_Touched.t
noncomputable def erasureref30_Touched.p1.s (minus0 : (List TEntry)) (plus1 : (List TEntry)) (column2 : Int) (i8 : Int) (out7 : (List TValue)) : St := ⟨frOf Try.f34.ntmps 0 [(0, .p (eL 2 cEntry dEntry minus0)), (1, .p (eL 2 cEntry dEntry plus1)), (2, .p (.int .i64 column2)), (7, .sref 0 24 3 (out7).length), (8, .p (.int .i64 i8))], [(oL true 24 3 cValue dValue out7)]⟩
noncomputable def erasureref30_Touched.p2.t : List Item := nav 21 [true, true] erasureref30_Touched.p1.t
noncomputable def erasureref30_Touched.p2.s (minus0 : (List TEntry)) (plus1 : (List TEntry)) (column2 : Int) (i8 : Int) (found10 : Bool) (k11 : Int) (out7 : (List TValue)) (v9b : TValue) : St := ⟨frOf Try.f34.ntmps 0 [(0, .p (eL 2 cEntry dEntry minus0)), (1, .p (eL 2 cEntry dEntry plus1)), (2, .p (.int .i64 column2)), (7, .sref 0 24 3 (out7).length), (8, .p (.int .i64 i8)), (9, .ptr 1 0 0), (10, .p (.bool found10)), (11, .p (.int .i64 k11))], [(oL true 24 3 cValue dValue out7), .box ((cValue v9b).map .p)]⟩
noncomputable def erasureref30_Touched.p3.t : List Item := nav 16 [false, false] erasureref30_Touched.p2.t
noncomputable def erasureref30_Touched.p3.s (minus0 : (List TEntry)) (plus1 : (List TEntry)) (column2 : Int) (i8 : Int) (k12 : Int) (out7 : (List TValue)) : St := ⟨frOf Try.f34.ntmps 0 [(0, .p (eL 2 cEntry dEntry minus0)), (1, .p (eL 2 cEntry dEntry plus1)), (2, .p (.int .i64 column2)), (7, .sref 0 24 3 (out7).length), (8, .p (.int .i64 i8)), (12, .p (.int .i64 k12))], [(oL true 24 3 cValue dValue out7)]⟩
theorem erasureref30_Touched.p3.run {rec1 : (List TEntry) → (List TEntry) → Int → Int → (List TValue) → Option (List TValue)} (hrec1 : ∀ (minus0 : (List TEntry)) (plus1 : (List TEntry)) (column2 : Int) (i8 : Int) (out7 : (List TValue)) r, rec1 minus0 plus1 column2 i8 out7 = some r → RunC Try.prog Try.f34 erasureref30_Touched.p1.t (erasureref30_Touched.p1.s minus0 plus1 column2 i8 out7) (.sref 0 24 3 (r).length) [(oL true 24 3 cValue dValue (r))]) : ∀ (k : Nat) (minus0 : (List TEntry)) (plus1 : (List TEntry)) (column2 : Int) (i8 : Int) (k12 : Int) (out7 : (List TValue)) (r : (List TValue)), erasureref30_Touched.p3 rec1 k minus0 plus1 column2 i8 k12 out7 = some r → RunC Try.prog Try.f34 erasureref30_Touched.p3.t (erasureref30_Touched.p3.s minus0 plus1 column2 i8 k12 out7) (.sref 0 24 3 (r).length) [(oL true 24 3 cValue dValue (r))] := by
  intro k
  induction k with
  | zero => intro minus0 plus1 column2 i8 k12 out7 r h; simp [erasureref30_Touched.p3] at h
  | succ k ih =>
    intro minus0 plus1 column2 i8 k12 out7 r h
    rw [erasureref30_Touched.p3] at h
    rcases ite_or h with ⟨g_11, h⟩ | ⟨g_11, h⟩
    · obtain ⟨g_12, h⟩ := ite_some h
      obtain ⟨g_13, h⟩ := ite_some h
      obtain ⟨y_14, e_15, h⟩ := bind_or h
      rcases ite_or h with ⟨g_16, h⟩ | ⟨g_16, h⟩
      · exact RunC.go [.n 2, .r [(2, .dec true), (12, .call (.p (.int .i64 y_14)) []), (14, .dec true)], .n 4, .r [(15, .obj (oL true 24 3 cValue dValue (out7.set (IntKind.i64.wrap (k12 - 1)).toNat (out7.getD k12.toNat dValue)))), (17, .obj (oL true 24 3 cValue dValue ((out7.set (IntKind.i64.wrap (k12 - 1)).toNat (out7.getD k12.toNat dValue)).set k12.toNat (out7.getD (IntKind.i64.wrap (k12 - 1)).toNat dValue))))], .n 3, .k [0, 1, 2, 7, 8, 12]] (by kernel_rfl) (Obs.of (by kernel_rfl) (And.intro g_11 (And.intro g_12 (And.intro g_13 (And.intro (erasureref01_Compare.spec e_15) (And.intro g_16 (And.intro g_12 (And.intro g_13 (And.intro g_13 (And.intro (le_set 24 3 cValue dValue out7 (out7.getD k12.toNat dValue) (IntKind.i64.wrap (k12 - 1)).toNat rfl) (And.intro g_12 (le_set 24 3 cValue dValue (out7.set (IntKind.i64.wrap (k12 - 1)).toNat (out7.getD k12.toNat dValue)) (out7.getD (IntKind.i64.wrap (k12 - 1)).toNat dValue) k12.toNat rfl)))))))))))) (ih _ _ _ _ _ _ r h)
      · exact RunC.go [.n 2, .r [(2, .dec true), (12, .call (.p (.int .i64 y_14)) []), (14, .dec false)], .n 5, .k [0, 1, 2, 7, 8]] (by kernel_rfl) (Obs.of (by kernel_rfl) (And.intro g_11 (And.intro g_12 (And.intro g_13 (And.intro (erasureref01_Compare.spec e_15) (nt g_16)))))) (hrec1 _ _ _ _ _ r h)
    · exact RunC.go [.n 2, .r [(2, .dec false)], .n 5, .k [0, 1, 2, 7, 8]] (by kernel_rfl) (Obs.of (by kernel_rfl) (nt g_11)) (hrec1 _ _ _ _ _ r h)
theorem erasureref30_Touched.p2.run {rec1 : (List TEntry) → (List TEntry) → Int → Int → (List TValue) → Option (List TValue)} (hrec1 : ∀ (minus0 : (List TEntry)) (plus1 : (List TEntry)) (column2 : Int) (i8 : Int) (out7 : (List TValue)) r, rec1 minus0 plus1 column2 i8 out7 = some r → RunC Try.prog Try.f34 erasureref30_Touched.p1.t (erasureref30_Touched.p1.s minus0 plus1 column2 i8 out7) (.sref 0 24 3 (r).length) [(oL true 24 3 cValue dValue (r))]) : ∀ (k : Nat) (minus0 : (List TEntry)) (plus1 : (List TEntry)) (column2 : Int) (i8 : Int) (found10 : Bool) (k11 : Int) (out7 : (List TValue)) (v9b : TValue) (r : (List TValue)), erasureref30_Touched.p2 rec1 k minus0 plus1 column2 i8 found10 k11 out7 v9b = some r → RunC Try.prog Try.f34 erasureref30_Touched.p2.t (erasureref30_Touched.p2.s minus0 plus1 column2 i8 found10 k11 out7 v9b) (.sref 0 24 3 (r).length) [(oL true 24 3 cValue dValue (r))] := by
  intro k
  induction k with
  | zero => intro minus0 plus1 column2 i8 found10 k11 out7 v9b r h; simp [erasureref30_Touched.p2] at h
  | succ k ih =>
    intro minus0 plus1 column2 i8 found10 k11 out7 v9b r h
    rw [erasureref30_Touched.p2] at h
    rcases ite_or h with ⟨g_6, h⟩ | ⟨g_6, h⟩
    · rcases ite_or h with ⟨g_7, h⟩ | ⟨g_7, h⟩
      · exact RunC.go [.n 2, .r [(3, .dec true)], .n 4, .r [(1, .dec true)], .n 3, .k [0, 1, 2, 7, 8, 9, 10, 11]] (by kernel_rfl) (Obs.of (by kernel_rfl) (And.intro g_6 g_7)) (ih _ _ _ _ _ _ _ _ r h)
      · obtain ⟨g_8, h⟩ := ite_some h
        exact RunC.go [.n 2, .r [(3, .dec true)], .n 4, .r [(1, .dec false)], .n 3, .k [0, 1, 2, 7, 8, 9, 10, 11]] (by kernel_rfl) (Obs.of (by kernel_rfl) (And.intro g_6 (And.intro (nt g_7) g_8))) (ih _ _ _ _ _ _ _ _ r h)
    · rcases ite_or h with ⟨g_9, h⟩ | ⟨g_9, h⟩
      · exact RunC.go [.n 2, .r [(3, .dec false)], .n 4, .r [(0, .dec true)], .n 4, .k [0, 1, 2, 7, 8]] (by kernel_rfl) (Obs.of (by kernel_rfl) (And.intro (nt g_6) g_9)) (hrec1 _ _ _ _ _ r h)
      · obtain ⟨g_10, h⟩ := ite_some h
        exact RunC.go [.n 2, .r [(3, .dec false)], .n 4, .r [(0, .dec false)], .n 3, .r [(2, .obj (oL true 24 3 cValue dValue [v9b])), (3, .obj (oL true 24 3 cValue dValue (out7 ++ ([v9b]))))], .n 4, .k [0, 1, 2, 7, 8, 12]] (by kernel_rfl) (Obs.of (by kernel_rfl) (And.intro (nt g_6) (And.intro (nt g_9) (And.intro (le_one 24 3 cValue dValue v9b) (And.intro g_10 (le_app 24 3 cValue dValue out7 ([v9b]))))))) (erasureref30_Touched.p3.run hrec1 k _ _ _ _ _ _ r h)
theorem erasureref30_Touched.p1.run   : ∀ (k : Nat) (minus0 : (List TEntry)) (plus1 : (List TEntry)) (column2 : Int) (i8 : Int) (out7 : (List TValue)) (r : (List TValue)), erasureref30_Touched.p1 k minus0 plus1 column2 i8 out7 = some r → RunC Try.prog Try.f34 erasureref30_Touched.p1.t (erasureref30_Touched.p1.s minus0 plus1 column2 i8 out7) (.sref 0 24 3 (r).length) [(oL true 24 3 cValue dValue (r))] := by
  intro k
  induction k with
  | zero => intro minus0 plus1 column2 i8 out7 r h; simp [erasureref30_Touched.p1] at h
  | succ k ih =>
    intro minus0 plus1 column2 i8 out7 r h
    rw [erasureref30_Touched.p1] at h
    rcases ite_or h with ⟨g_1, h⟩ | ⟨g_1, h⟩
    · rcases ite_or h with ⟨g_2, h⟩ | ⟨g_2, h⟩
      · obtain ⟨g_3, h⟩ := ite_some h
        obtain ⟨y_4, e_5, h⟩ := bind_or h
        exact RunC.go [.n 2, .r [(6, .dec true)], .n 8, .r [(3, .dec true)], .n 1, .r [(6, .call (.agg ((cValue y_4).map .p)) [])], .n 7, .k [0, 1, 2, 7, 8, 9, 10, 11]] (by kernel_rfl) (Obs.of (by kernel_rfl) (And.intro g_1 (And.intro g_2 (And.intro g_3 (erasureref30_at.spec e_5))))) (erasureref30_Touched.p2.run ih k _ _ _ _ _ _ _ _ r h)
      · obtain ⟨g_17, h⟩ := ite_some h
        obtain ⟨y_18, e_19, h⟩ := bind_or h
        exact RunC.go [.n 2, .r [(6, .dec true)], .n 8, .r [(3, .dec false)], .n 1, .r [(9, .call (.agg ((cValue y_18).map .p)) [])], .n 7, .k [0, 1, 2, 7, 8, 9, 10, 11]] (by kernel_rfl) (Obs.of (by kernel_rfl) (And.intro g_1 (And.intro (nt g_2) (And.intro g_17 (erasureref30_at.spec e_19))))) (erasureref30_Touched.p2.run ih k _ _ _ _ _ _ _ _ r h)
    · obtain rfl := Option.some.inj h
      exact RunC.out [.n 2, .r [(6, .dec false)], .n 4] (by kernel_rfl) (Obs.of (by kernel_rfl) (nt g_1))
theorem erasureref30_Touched.run   {k : Nat} {minus0 : (List TEntry)} {plus1 : (List TEntry)} {column2 : Int} {r : (List TValue)} (h : erasureref30_Touched k minus0 plus1 column2 = some r) : RunC Try.prog Try.f34 erasureref30_Touched.t (erasureref30_Touched.s minus0 plus1 column2) (.sref 0 24 3 (r).length) [(oL true 24 3 cValue dValue (r))] := by
  unfold erasureref30_Touched at h
  exact RunC.go [.n 1, .r [(0, .obj (oL true 24 3 cValue dValue ([] : List TValue)))], .n 1, .r [(0, .obj (oL true 24 3 cValue dValue ([] : List TValue)))], .n 5, .k [0, 1, 2, 7, 8]] (by kernel_rfl) (Obs.of (by kernel_rfl) (And.intro (le_nil 24 3 cValue dValue) (le_nil 24 3 cValue dValue))) (erasureref30_Touched.p1.run k _ _ _ _ _ r h)
theorem erasureref30_Touched.p3.mono {rec1 rec1' : (List TEntry) → (List TEntry) → Int → Int → (List TValue) → Option (List TValue)} (hm1 : ∀ (minus0 : (List TEntry)) (plus1 : (List TEntry)) (column2 : Int) (i8 : Int) (out7 : (List TValue)) r, rec1 minus0 plus1 column2 i8 out7 = some r → rec1' minus0 plus1 column2 i8 out7 = some r) : ∀ (k k' : Nat) (minus0 : (List TEntry)) (plus1 : (List TEntry)) (column2 : Int) (i8 : Int) (k12 : Int) (out7 : (List TValue)) (r : (List TValue)), k ≤ k' → erasureref30_Touched.p3 rec1 k minus0 plus1 column2 i8 k12 out7 = some r → erasureref30_Touched.p3 rec1' k' minus0 plus1 column2 i8 k12 out7 = some r := by
  intro k
  induction k with
  | zero => intro k' minus0 plus1 column2 i8 k12 out7 r hk h; simp [erasureref30_Touched.p3] at h
  | succ k ih =>
    intro k' minus0 plus1 column2 i8 k12 out7 r hk h
    obtain ⟨k', rfl⟩ : ∃ m, k' = m + 1 := ⟨k' - 1, by omega⟩
    replace hk := Nat.le_of_succ_le_succ hk
    rw [erasureref30_Touched.p3] at h ⊢
    rcases ite_or h with ⟨g_11, h⟩ | ⟨g_11, h⟩
    · refine itp g_11 ?_
      obtain ⟨g_12, h⟩ := ite_some h
      refine itp g_12 ?_
      obtain ⟨g_13, h⟩ := ite_some h
      refine itp g_13 ?_
      obtain ⟨y_14, e_15, h⟩ := bind_or h
      refine bnd (erasureref01_Compare.mono _ _ _ _ _ hk e_15) ?_
      rcases ite_or h with ⟨g_16, h⟩ | ⟨g_16, h⟩
      · refine itp g_16 ?_
        exact ih _ _ _ _ _ _ _ r hk h
      · refine itn g_16 ?_
        exact hm1 _ _ _ _ _ r h
    · refine itn g_11 ?_
      exact hm1 _ _ _ _ _ r h
theorem erasureref30_Touched.p2.mono {rec1 rec1' : (List TEntry) → (List TEntry) → Int → Int → (List TValue) → Option (List TValue)} (hm1 : ∀ (minus0 : (List TEntry)) (plus1 : (List TEntry)) (column2 : Int) (i8 : Int) (out7 : (List TValue)) r, rec1 minus0 plus1 column2 i8 out7 = some r → rec1' minus0 plus1 column2 i8 out7 = some r) : ∀ (k k' : Nat) (minus0 : (List TEntry)) (plus1 : (List TEntry)) (column2 : Int) (i8 : Int) (found10 : Bool) (k11 : Int) (out7 : (List TValue)) (v9b : TValue) (r : (List TValue)), k ≤ k' → erasureref30_Touched.p2 rec1 k minus0 plus1 column2 i8 found10 k11 out7 v9b = some r → erasureref30_Touched.p2 rec1' k' minus0 plus1 column2 i8 found10 k11 out7 v9b = some r := by
  intro k
  induction k with
  | zero => intro k' minus0 plus1 column2 i8 found10 k11 out7 v9b r hk h; simp [erasureref30_Touched.p2] at h
  | succ k ih =>
    intro k' minus0 plus1 column2 i8 found10 k11 out7 v9b r hk h
    obtain ⟨k', rfl⟩ : ∃ m, k' = m + 1 := ⟨k' - 1, by omega⟩
    replace hk := Nat.le_of_succ_le_succ hk
    rw [erasureref30_Touched.p2] at h ⊢
    rcases ite_or h with ⟨g_6, h⟩ | ⟨g_6, h⟩
    · refine itp g_6 ?_
      rcases ite_or h with ⟨g_7, h⟩ | ⟨g_7, h⟩
      · refine itp g_7 ?_
        exact ih _ _ _ _ _ _ _ _ _ r hk h
      · refine itn g_7 ?_
        obtain ⟨g_8, h⟩ := ite_some h
        refine itp g_8 ?_
        exact ih _ _ _ _ _ _ _ _ _ r hk h
    · refine itn g_6 ?_
      rcases ite_or h with ⟨g_9, h⟩ | ⟨g_9, h⟩
      · refine itp g_9 ?_
        exact hm1 _ _ _ _ _ r h
      · refine itn g_9 ?_
        obtain ⟨g_10, h⟩ := ite_some h
        refine itp g_10 ?_
        exact erasureref30_Touched.p3.mono hm1 _ _ _ _ _ _ _ _ r hk h
theorem erasureref30_Touched.p1.mono   : ∀ (k k' : Nat) (minus0 : (List TEntry)) (plus1 : (List TEntry)) (column2 : Int) (i8 : Int) (out7 : (List TValue)) (r : (List TValue)), k ≤ k' → erasureref30_Touched.p1 k minus0 plus1 column2 i8 out7 = some r → erasureref30_Touched.p1 k' minus0 plus1 column2 i8 out7 = some r := by
  intro k
  induction k with
  | zero => intro k' minus0 plus1 column2 i8 out7 r hk h; simp [erasureref30_Touched.p1] at h
  | succ k ih =>
    intro k' minus0 plus1 column2 i8 out7 r hk h
    obtain ⟨k', rfl⟩ : ∃ m, k' = m + 1 := ⟨k' - 1, by omega⟩
    replace hk := Nat.le_of_succ_le_succ hk
    rw [erasureref30_Touched.p1] at h ⊢
    rcases ite_or h with ⟨g_1, h⟩ | ⟨g_1, h⟩
    · refine itp g_1 ?_
      rcases ite_or h with ⟨g_2, h⟩ | ⟨g_2, h⟩
      · refine itp g_2 ?_
        obtain ⟨g_3, h⟩ := ite_some h
        refine itp g_3 ?_
        obtain ⟨y_4, e_5, h⟩ := bind_or h
        refine bnd (erasureref30_at.mono _ _ _ _ _ hk e_5) ?_
        exact erasureref30_Touched.p2.mono (fun x0 x1 x2 x3 x4 r h => ih _ x0 x1 x2 x3 x4 r hk h) _ _ _ _ _ _ _ _ _ _ r hk h
      · refine itn g_2 ?_
        obtain ⟨g_17, h⟩ := ite_some h
        refine itp g_17 ?_
        obtain ⟨y_18, e_19, h⟩ := bind_or h
        refine bnd (erasureref30_at.mono _ _ _ _ _ hk e_19) ?_
        exact erasureref30_Touched.p2.mono (fun x0 x1 x2 x3 x4 r h => ih _ x0 x1 x2 x3 x4 r hk h) _ _ _ _ _ _ _ _ _ _ r hk h
    · refine itn g_1 ?_
      exact h
theorem erasureref30_Touched.mono   : ∀ (k k' : Nat) (minus0 : (List TEntry)) (plus1 : (List TEntry)) (column2 : Int) (r : (List TValue)), k ≤ k' → erasureref30_Touched k minus0 plus1 column2 = some r → erasureref30_Touched k' minus0 plus1 column2 = some r := by
  intro k k' minus0 plus1 column2 r hk h
  unfold erasureref30_Touched at h ⊢
  exact erasureref30_Touched.p1.mono _ _ _ _ _ _ _ r hk h
theorem erasureref30_Touched.spec {k : Nat} {minus0 : (List TEntry)} {plus1 : (List TEntry)} {column2 : Int} {r : (List TValue)} (h : erasureref30_Touched k minus0 plus1 column2 = some r) : Spec Try.prog 34 [.p (eL 2 cEntry dEntry minus0), .p (eL 2 cEntry dEntry plus1), .p (.int .i64 column2)] (.sref 0 24 3 (r).length) [(oL true 24 3 cValue dValue (r))] :=
  spec_of mix Try.func34 (body := bodyOf Try.f34) (by kernel_rfl) (by kernel_rfl) (erasureref30_Touched.run h)
end Go.Proofs.YtjhnpaenhdbhpabV
set_option linter.unusedVariables false
set_option linter.unusedSimpArgs false
set_option maxRecDepth 100000
namespace Go.Proofs.YtjhnpaenhdbhpabV
open Go Go.RowKit
noncomputable def erasurelaw30_CacheTouches  (k : Nat) (minus0 : (List TEntry)) (plus1 : (List TEntry)) (column2 : Int) : Option Bool := (erasurelaw30_short k minus0).bind fun y_1 => (if (!y_1) = true then ((erasurelaw30_awake k ).bind fun y_4 => (some y_4)) else ((erasurelaw30_short k plus1).bind fun y_6 => (if (!y_6) = true then ((erasurelaw30_awake k ).bind fun y_9 => (some y_9)) else ((cache_Touched k minus0 plus1 column2).bind fun y_11 => ((erasureref30_Touched k minus0 plus1 column2).bind fun y_13 => ((erasureref26_SameRow k y_11 y_13).bind fun y_15 => (if y_15 = true then ((erasurelaw30_awake k ).bind fun y_18 => (some y_18)) else (some false))))))))
noncomputable def erasurelaw30_CacheTouches.t : List Item := [.code (bodyOf Try.f9)]
noncomputable def erasurelaw30_CacheTouches.s (minus0 : (List TEntry)) (plus1 : (List TEntry)) (column2 : Int) : St := ⟨frOf Try.f9.ntmps 0 [(0, .p (eL 2 cEntry dEntry minus0)), (1, .p (eL 2 cEntry dEntry plus1)), (2, .p (.int .i64 column2))], []⟩
theorem erasurelaw30_CacheTouches.run   {k : Nat} {minus0 : (List TEntry)} {plus1 : (List TEntry)} {column2 : Int} {r : Bool} (h : erasurelaw30_CacheTouches k minus0 plus1 column2 = some r) : RunC Try.prog Try.f9 erasurelaw30_CacheTouches.t (erasurelaw30_CacheTouches.s minus0 plus1 column2) (.p (.bool r)) [] := by
  unfold erasurelaw30_CacheTouches at h
  obtain ⟨y_1, e_2, h⟩ := bind_or h
  rcases ite_or h with ⟨g_3, h⟩ | ⟨g_3, h⟩
  · obtain ⟨y_4, e_5, h⟩ := bind_or h
    obtain rfl := Option.some.inj h
    exact RunC.out [.n 4, .r [(1, .call (.p (.bool y_1)) []), (3, .dec true)], .n 2, .r [(0, .call (.p (.bool y_4)) [])]] (by kernel_rfl) (Obs.of (by kernel_rfl) (And.intro (erasurelaw30_short.spec e_2) (And.intro g_3 (erasurelaw30_awake.spec e_5))))
  · obtain ⟨y_6, e_7, h⟩ := bind_or h
    rcases ite_or h with ⟨g_8, h⟩ | ⟨g_8, h⟩
    · obtain ⟨y_9, e_10, h⟩ := bind_or h
      obtain rfl := Option.some.inj h
      exact RunC.out [.n 4, .r [(1, .call (.p (.bool y_1)) []), (3, .dec false), (5, .call (.p (.bool y_6)) []), (7, .dec true)], .n 2, .r [(0, .call (.p (.bool y_9)) [])]] (by kernel_rfl) (Obs.of (by kernel_rfl) (And.intro (erasurelaw30_short.spec e_2) (And.intro (nt g_3) (And.intro (erasurelaw30_short.spec e_7) (And.intro g_8 (erasurelaw30_awake.spec e_10))))))
    · obtain ⟨y_11, e_12, h⟩ := bind_or h
      obtain ⟨y_13, e_14, h⟩ := bind_or h
      obtain ⟨y_15, e_16, h⟩ := bind_or h
      rcases ite_or h with ⟨g_17, h⟩ | ⟨g_17, h⟩
      · obtain ⟨y_18, e_19, h⟩ := bind_or h
        obtain rfl := Option.some.inj h
        exact RunC.out [.n 4, .r [(1, .call (.p (.bool y_1)) []), (3, .dec false), (5, .call (.p (.bool y_6)) []), (7, .dec false)], .n 3, .r [(3, .call (.sref 0 24 3 (y_11).length) [(oL true 24 3 cValue dValue y_11)]), (7, .call (.sref 0 24 3 (y_13).length) [(oL true 24 3 cValue dValue y_13)]), (8, .call (.p (.bool y_15)) []), (9, .dec true), (10, .call (.p (.bool y_18)) [])]] (by kernel_rfl) (Obs.of (by kernel_rfl) (And.intro (erasurelaw30_short.spec e_2) (And.intro (nt g_3) (And.intro (erasurelaw30_short.spec e_7) (And.intro (nt g_8) (And.intro (cache_Touched.spec e_12) (And.intro (erasureref30_Touched.spec e_14) (And.intro (erasureref26_SameRow.spec e_16) (And.intro g_17 (erasurelaw30_awake.spec e_19))))))))))
      · obtain rfl := Option.some.inj h
        exact RunC.out [.n 4, .r [(1, .call (.p (.bool y_1)) []), (3, .dec false), (5, .call (.p (.bool y_6)) []), (7, .dec false)], .n 3, .r [(3, .call (.sref 0 24 3 (y_11).length) [(oL true 24 3 cValue dValue y_11)]), (7, .call (.sref 0 24 3 (y_13).length) [(oL true 24 3 cValue dValue y_13)]), (8, .call (.p (.bool y_15)) []), (9, .dec false)]] (by kernel_rfl) (Obs.of (by kernel_rfl) (And.intro (erasurelaw30_short.spec e_2) (And.intro (nt g_3) (And.intro (erasurelaw30_short.spec e_7) (And.intro (nt g_8) (And.intro (cache_Touched.spec e_12) (And.intro (erasureref30_Touched.spec e_14) (And.intro (erasureref26_SameRow.spec e_16) (nt g_17)))))))))
theorem erasurelaw30_CacheTouches.mono   : ∀ (k k' : Nat) (minus0 : (List TEntry)) (plus1 : (List TEntry)) (column2 : Int) (r : Bool), k ≤ k' → erasurelaw30_CacheTouches k minus0 plus1 column2 = some r → erasurelaw30_CacheTouches k' minus0 plus1 column2 = some r := by
  intro k k' minus0 plus1 column2 r hk h
  unfold erasurelaw30_CacheTouches at h ⊢
  obtain ⟨y_1, e_2, h⟩ := bind_or h
  refine bnd (erasurelaw30_short.mono _ _ _ _ hk e_2) ?_
  rcases ite_or h with ⟨g_3, h⟩ | ⟨g_3, h⟩
  · refine itp g_3 ?_
    obtain ⟨y_4, e_5, h⟩ := bind_or h
    refine bnd (erasurelaw30_awake.mono _ _  _ hk e_5) ?_
    exact h
  · refine itn g_3 ?_
    obtain ⟨y_6, e_7, h⟩ := bind_or h
    refine bnd (erasurelaw30_short.mono _ _ _ _ hk e_7) ?_
    rcases ite_or h with ⟨g_8, h⟩ | ⟨g_8, h⟩
    · refine itp g_8 ?_
      obtain ⟨y_9, e_10, h⟩ := bind_or h
      refine bnd (erasurelaw30_awake.mono _ _  _ hk e_10) ?_
      exact h
    · refine itn g_8 ?_
      obtain ⟨y_11, e_12, h⟩ := bind_or h
      refine bnd (cache_Touched.mono _ _ _ _ _ _ hk e_12) ?_
      obtain ⟨y_13, e_14, h⟩ := bind_or h
      refine bnd (erasureref30_Touched.mono _ _ _ _ _ _ hk e_14) ?_
      obtain ⟨y_15, e_16, h⟩ := bind_or h
      refine bnd (erasureref26_SameRow.mono _ _ _ _ _ hk e_16) ?_
      rcases ite_or h with ⟨g_17, h⟩ | ⟨g_17, h⟩
      · refine itp g_17 ?_
        obtain ⟨y_18, e_19, h⟩ := bind_or h
        refine bnd (erasurelaw30_awake.mono _ _  _ hk e_19) ?_
        exact h
      · refine itn g_17 ?_
        exact h
theorem erasurelaw30_CacheTouches.spec {k : Nat} {minus0 : (List TEntry)} {plus1 : (List TEntry)} {column2 : Int} {r : Bool} (h : erasurelaw30_CacheTouches k minus0 plus1 column2 = some r) : Spec Try.prog 9 [.p (eL 2 cEntry dEntry minus0), .p (eL 2 cEntry dEntry plus1), .p (.int .i64 column2)] (.p (.bool r)) [] :=
  spec_of mix Try.func9 (body := bodyOf Try.f9) (by kernel_rfl) (by kernel_rfl) (erasurelaw30_CacheTouches.run h)
end Go.Proofs.YtjhnpaenhdbhpabV
set_option linter.unusedVariables false
set_option linter.unusedSimpArgs false
set_option maxRecDepth 100000
namespace Go.Proofs.YtjhnpaenhdbhpabV
open Go Go.RowKit
noncomputable def erasureref30_ranged  (k : Nat) (c0 : TCache) (day1 : Int) : Option Bool := if (decide (c0.f3 ≥ 0)) = true then (if (decide (c0.f3 ≤ 1048576)) = true then (if (decide (day1 ≥ 0)) = true then (some (decide (day1 ≤ 1048576))) else (some false)) else (some false)) else (some false)
noncomputable def erasureref30_ranged.t : List Item := [.code (bodyOf Try.f45)]
noncomputable def erasureref30_ranged.s (c0 : TCache) (day1 : Int) : St := ⟨frOf Try.f45.ntmps 0 [(0, .agg ((cCache c0).map .p)), (1, .p (.int .i64 day1))], []⟩
theorem erasureref30_ranged.run   {k : Nat} {c0 : TCache} {day1 : Int} {r : Bool} (h : erasureref30_ranged k c0 day1 = some r) : RunC Try.prog Try.f45 erasureref30_ranged.t (erasureref30_ranged.s c0 day1) (.p (.bool r)) [] := by
  unfold erasureref30_ranged at h
  rcases ite_or h with ⟨g_1, h⟩ | ⟨g_1, h⟩
  · rcases ite_or h with ⟨g_2, h⟩ | ⟨g_2, h⟩
    · rcases ite_or h with ⟨g_3, h⟩ | ⟨g_3, h⟩
      · obtain rfl := Option.some.inj h
        exact RunC.out [.n 3, .r [(3, .dec true), (8, .dec true), (12, .dec true)]] (by kernel_rfl) (Obs.of (by kernel_rfl) (And.intro g_1 (And.intro g_2 g_3)))
      · obtain rfl := Option.some.inj h
        exact RunC.out [.n 3, .r [(3, .dec true), (8, .dec true), (12, .dec false)]] (by kernel_rfl) (Obs.of (by kernel_rfl) (And.intro g_1 (And.intro g_2 (nt g_3))))
    · obtain rfl := Option.some.inj h
      exact RunC.out [.n 3, .r [(3, .dec true), (8, .dec false)]] (by kernel_rfl) (Obs.of (by kernel_rfl) (And.intro g_1 (nt g_2)))
  · obtain rfl := Option.some.inj h
    exact RunC.out [.n 3, .r [(3, .dec false)]] (by kernel_rfl) (Obs.of (by kernel_rfl) (nt g_1))
theorem erasureref30_ranged.mono   : ∀ (k k' : Nat) (c0 : TCache) (day1 : Int) (r : Bool), k ≤ k' → erasureref30_ranged k c0 day1 = some r → erasureref30_ranged k' c0 day1 = some r := by
  intro k k' c0 day1 r hk h
  unfold erasureref30_ranged at h ⊢
  rcases ite_or h with ⟨g_1, h⟩ | ⟨g_1, h⟩
  · refine itp g_1 ?_
    rcases ite_or h with ⟨g_2, h⟩ | ⟨g_2, h⟩
    · refine itp g_2 ?_
      rcases ite_or h with ⟨g_3, h⟩ | ⟨g_3, h⟩
      · refine itp g_3 ?_
        exact h
      · refine itn g_3 ?_
        exact h
    · refine itn g_2 ?_
      exact h
  · refine itn g_1 ?_
    exact h
theorem erasureref30_ranged.spec {k : Nat} {c0 : TCache} {day1 : Int} {r : Bool} (h : erasureref30_ranged k c0 day1 = some r) : Spec Try.prog 45 [.agg ((cCache c0).map .p), .p (.int .i64 day1)] (.p (.bool r)) [] :=
  spec_of mix Try.func45 (body := bodyOf Try.f45) (by kernel_rfl) (by kernel_rfl) (erasureref30_ranged.run h)
end Go.Proofs.YtjhnpaenhdbhpabV
set_option linter.unusedVariables false
set_option linter.unusedSimpArgs false
set_option maxRecDepth 100000
namespace Go.Proofs.YtjhnpaenhdbhpabV
open Go Go.RowKit
noncomputable def erasureref30_Expire.p1  : Nat → (List TCached) → Int → Int → TCache → (List TCached) → Option (List TCached)
  | 0, _, _, _, _, _ => none
  | k + 1, s1, day2, i8, c3b, out7 => if (decide (i8 < ((s1).length : Int))) = true then (if 0 ≤ i8 ∧ i8 < ((s1).length : Int) then (if (decide (day2 ≥ (s1.getD i8.toNat dCached).f2)) = true then (if (decide (day2 < (IntKind.i64.wrap ((s1.getD i8.toNat dCached).f2 + c3b.f3)))) = true then (if (out7).length + ([(s1.getD i8.toNat dCached)]).length ≤ maxLen ∧ ((out7).length + ([(s1.getD i8.toNat dCached)]).length) * 64 ≤ 140737488355328 then (erasureref30_Expire.p1 k s1 day2 (IntKind.i64.wrap (i8 + 1)) c3b (out7 ++ ([(s1.getD i8.toNat dCached)]))) else none) else (erasureref30_Expire.p1 k s1 day2 (IntKind.i64.wrap (i8 + 1)) c3b out7)) else (erasureref30_Expire.p1 k s1 day2 (IntKind.i64.wrap (i8 + 1)) c3b out7)) else none) else (some out7)
noncomputable def erasureref30_Expire  (k : Nat) (c0 : TCache) (s1 : (List TCached)) (day2 : Int) : Option (List TCached) := (erasureref30_Valid k s1).bind fun y_1 => (if (!y_1) = true then (some ([] : List TCached)) else ((erasureref30_ranged k c0 day2).bind fun y_4 => (if (!y_4) = true then (some ([] : List TCached)) else (erasureref30_Expire.p1 k s1 day2 0 c0 ([] : List TCached)))))
noncomputable def erasureref30_Expire.t : List Item := [.code (bodyOf Try.f26)]
noncomputable def erasureref30_Expire.s (c0 : TCache) (s1 : (List TCached)) (day2 : Int) : St := ⟨frOf Try.f26.ntmps 0 [(0, .agg ((cCache c0).map .p)), (1, .p (eL 5 cCached dCached s1)), (2, .p (.int .i64 day2))], []⟩
noncomputable def erasureref30_Expire.p1.t : List Item := nav 14 [false] erasureref30_Expire.t
noncomputable def erasureref30_Expire.p1.s (s1 : (List TCached)) (day2 : Int) (i8 : Int) (c3b : TCache) (out7 : (List TCached)) : St := ⟨frOf Try.f26.ntmps 0 [(1, .p (eL 5 cCached dCached s1)), (2, .p (.int .i64 day2)), (3, .ptr 0 0 0), (7, .sref 1 46 5 (out7).length), (8, .p (.int .i64 i8))], [.box ((cCache c3b).map .p), (oL true 46 5 cCached dCached out7)]⟩
theorem erasureref30_Expire.p1.run   : ∀ (k : Nat) (s1 : (List TCached)) (day2 : Int) (i8 : Int) (c3b : TCache) (out7 : (List TCached)) (r : (List TCached)), erasureref30_Expire.p1 k s1 day2 i8 c3b out7 = some r → RunC Try.prog Try.f26 erasureref30_Expire.p1.t (erasureref30_Expire.p1.s s1 day2 i8 c3b out7) (.sref 0 46 5 (r).length) [(oL true 46 5 cCached dCached (r))] := by
  intro k
  induction k with
  | zero => intro s1 day2 i8 c3b out7 r h; simp [erasureref30_Expire.p1] at h
  | succ k ih =>
    intro s1 day2 i8 c3b out7 r h
    rw [erasureref30_Expire.p1] at h
    rcases ite_or h with ⟨g_7, h⟩ | ⟨g_7, h⟩
    · obtain ⟨g_8, h⟩ := ite_some h
      rcases ite_or h with ⟨g_9, h⟩ | ⟨g_9, h⟩
      · rcases ite_or h with ⟨g_10, h⟩ | ⟨g_10, h⟩
        · obtain ⟨g_11, h⟩ := ite_some h
          exact RunC.go [.n 2, .r [(3, .dec true)], .n 5, .r [(7, .dec true), (18, .dec true)], .n 1, .r [(5, .obj (oL true 46 5 cCached dCached [(s1.getD i8.toNat dCached)])), (6, .obj (oL true 46 5 cCached dCached (out7 ++ ([(s1.getD i8.toNat dCached)]))))], .n 3, .k [1, 2, 3, 7, 8]] (by kernel_rfl) (Obs.of (by kernel_rfl) (And.intro g_7 (And.intro g_8 (And.intro g_9 (And.intro g_8 (And.intro g_10 (And.intro g_8 (And.intro (le_one 46 5 cCached dCached (s1.getD i8.toNat dCached)) (And.intro g_11 (le_app 46 5 cCached dCached out7 ([(s1.getD i8.toNat dCached)]))))))))))) (ih _ _ _ _ _ r h)
        · exact RunC.go [.n 2, .r [(3, .dec true)], .n 5, .r [(7, .dec true), (18, .dec false)], .n 5, .k [1, 2, 3, 7, 8]] (by kernel_rfl) (Obs.of (by kernel_rfl) (And.intro g_7 (And.intro g_8 (And.intro g_9 (And.intro g_8 (nt g_10)))))) (ih _ _ _ _ _ r h)
      · exact RunC.go [.n 2, .r [(3, .dec true)], .n 5, .r [(7, .dec false)], .n 5, .k [1, 2, 3, 7, 8]] (by kernel_rfl) (Obs.of (by kernel_rfl) (And.intro g_7 (And.intro g_8 (nt g_9)))) (ih _ _ _ _ _ r h)
    · obtain rfl := Option.some.inj h
      exact RunC.out [.n 2, .r [(3, .dec false)], .n 4] (by kernel_rfl) (Obs.of (by kernel_rfl) (nt g_7))
theorem erasureref30_Expire.run   {k : Nat} {c0 : TCache} {s1 : (List TCached)} {day2 : Int} {r : (List TCached)} (h : erasureref30_Expire k c0 s1 day2 = some r) : RunC Try.prog Try.f26 erasureref30_Expire.t (erasureref30_Expire.s c0 s1 day2) (.sref 0 46 5 (r).length) [(oL true 46 5 cCached dCached (r))] := by
  unfold erasureref30_Expire at h
  obtain ⟨y_1, e_2, h⟩ := bind_or h
  rcases ite_or h with ⟨g_3, h⟩ | ⟨g_3, h⟩
  · obtain rfl := Option.some.inj h
    exact RunC.out [.n 1, .r [(1, .obj (oL true 46 5 cCached dCached ([] : List TCached)))], .n 2, .r [(1, .call (.p (.bool y_1)) []), (3, .dec true)], .n 2, .r [(0, .obj (oL true 46 5 cCached dCached ([] : List TCached)))]] (by kernel_rfl) (Obs.of (by kernel_rfl) (And.intro (le_nil 46 5 cCached dCached) (And.intro (erasureref30_Valid.spec e_2) (And.intro g_3 (le_nil 46 5 cCached dCached)))))
  · obtain ⟨y_4, e_5, h⟩ := bind_or h
    rcases ite_or h with ⟨g_6, h⟩ | ⟨g_6, h⟩
    · obtain rfl := Option.some.inj h
      exact RunC.out [.n 1, .r [(1, .obj (oL true 46 5 cCached dCached ([] : List TCached)))], .n 2, .r [(1, .call (.p (.bool y_1)) []), (3, .dec false), (6, .call (.p (.bool y_4)) []), (8, .dec true)], .n 2, .r [(0, .obj (oL true 46 5 cCached dCached ([] : List TCached)))]] (by kernel_rfl) (Obs.of (by kernel_rfl) (And.intro (le_nil 46 5 cCached dCached) (And.intro (erasureref30_Valid.spec e_2) (And.intro (nt g_3) (And.intro (erasureref30_ranged.spec e_5) (And.intro g_6 (le_nil 46 5 cCached dCached)))))))
    · exact RunC.go [.n 1, .r [(1, .obj (oL true 46 5 cCached dCached ([] : List TCached)))], .n 2, .r [(1, .call (.p (.bool y_1)) []), (3, .dec false), (6, .call (.p (.bool y_4)) []), (8, .dec false)], .n 3, .r [(0, .obj (oL true 46 5 cCached dCached ([] : List TCached)))], .n 5, .k [1, 2, 3, 7, 8]] (by kernel_rfl) (Obs.of (by kernel_rfl) (And.intro (le_nil 46 5 cCached dCached) (And.intro (erasureref30_Valid.spec e_2) (And.intro (nt g_3) (And.intro (erasureref30_ranged.spec e_5) (And.intro (nt g_6) (le_nil 46 5 cCached dCached))))))) (erasureref30_Expire.p1.run k _ _ _ _ _ r h)
theorem erasureref30_Expire.p1.mono   : ∀ (k k' : Nat) (s1 : (List TCached)) (day2 : Int) (i8 : Int) (c3b : TCache) (out7 : (List TCached)) (r : (List TCached)), k ≤ k' → erasureref30_Expire.p1 k s1 day2 i8 c3b out7 = some r → erasureref30_Expire.p1 k' s1 day2 i8 c3b out7 = some r := by
  intro k
  induction k with
  | zero => intro k' s1 day2 i8 c3b out7 r hk h; simp [erasureref30_Expire.p1] at h
  | succ k ih =>
    intro k' s1 day2 i8 c3b out7 r hk h
    obtain ⟨k', rfl⟩ : ∃ m, k' = m + 1 := ⟨k' - 1, by omega⟩
    replace hk := Nat.le_of_succ_le_succ hk
    rw [erasureref30_Expire.p1] at h ⊢
    rcases ite_or h with ⟨g_7, h⟩ | ⟨g_7, h⟩
    · refine itp g_7 ?_
      obtain ⟨g_8, h⟩ := ite_some h
      refine itp g_8 ?_
      rcases ite_or h with ⟨g_9, h⟩ | ⟨g_9, h⟩
      · refine itp g_9 ?_
        rcases ite_or h with ⟨g_10, h⟩ | ⟨g_10, h⟩
        · refine itp g_10 ?_
          obtain ⟨g_11, h⟩ := ite_some h
          refine itp g_11 ?_
          exact ih _ _ _ _ _ _ r hk h
        · refine itn g_10 ?_
          exact ih _ _ _ _ _ _ r hk h
      · refine itn g_9 ?_
        exact ih _ _ _ _ _ _ r hk h
    · refine itn g_7 ?_
      exact h
theorem erasureref30_Expire.mono   : ∀ (k k' : Nat) (c0 : TCache) (s1 : (List TCached)) (day2 : Int) (r : (List TCached)), k ≤ k' → erasureref30_Expire k c0 s1 day2 = some r → erasureref30_Expire k' c0 s1 day2 = some r := by
  intro k k' c0 s1 day2 r hk h
  unfold erasureref30_Expire at h ⊢
  obtain ⟨y_1, e_2, h⟩ := bind_or h
  refine bnd (erasureref30_Valid.mono _ _ _ _ hk e_2) ?_
  rcases ite_or h with ⟨g_3, h⟩ | ⟨g_3, h⟩
  · refine itp g_3 ?_
    exact h
  · refine itn g_3 ?_
    obtain ⟨y_4, e_5, h⟩ := bind_or h
    refine bnd (erasureref30_ranged.mono _ _ _ _ _ hk e_5) ?_
    rcases ite_or h with ⟨g_6, h⟩ | ⟨g_6, h⟩
    · refine itp g_6 ?_
      exact h
    · refine itn g_6 ?_
      exact erasureref30_Expire.p1.mono _ _ _ _ _ _ _ r hk h
theorem erasureref30_Expire.spec {k : Nat} {c0 : TCache} {s1 : (List TCached)} {day2 : Int} {r : (List TCached)} (h : erasureref30_Expire k c0 s1 day2 = some r) : Spec Try.prog 26 [.agg ((cCache c0).map .p), .p (eL 5 cCached dCached s1), .p (.int .i64 day2)] (.sref 0 46 5 (r).length) [(oL true 46 5 cCached dCached (r))] :=
  spec_of mix Try.func26 (body := bodyOf Try.f26) (by kernel_rfl) (by kernel_rfl) (erasureref30_Expire.run h)
end Go.Proofs.YtjhnpaenhdbhpabV
set_option linter.unusedVariables false
set_option linter.unusedSimpArgs false
set_option maxRecDepth 100000
namespace Go.Proofs.YtjhnpaenhdbhpabV
open Go Go.RowKit
noncomputable def erasureref30_Select.p1  : Nat → (List TEntry) → Int → Int → TValue → (List TEntry) → Option (List TEntry)
  | 0, _, _, _, _, _ => none
  | k + 1, rows0, column1, i8, v5b, out7 => if (decide (i8 < ((rows0).length : Int))) = true then (if 0 ≤ i8 ∧ i8 < ((rows0).length : Int) then ((erasureref30_at k ((rows0.getD i8.toNat dEntry).f0) column1).bind fun y_3 => ((erasureref01_Clean k v5b).bind fun y_5 => (if ((y_3.f0 == y_5.f0) && ((y_3.f1 == y_5.f1) && ((y_3.f2.data.toList == y_5.f2.data.toList) && true))) = true then (if (out7).length + ([(rows0.getD i8.toNat dEntry)]).length ≤ maxLen ∧ ((out7).length + ([(rows0.getD i8.toNat dEntry)]).length) * 32 ≤ 140737488355328 then (erasureref30_Select.p1 k rows0 column1 (IntKind.i64.wrap (i8 + 1)) v5b (out7 ++ ([(rows0.getD i8.toNat dEntry)]))) else none) else (erasureref30_Select.p1 k rows0 column1 (IntKind.i64.wrap (i8 + 1)) v5b out7)))) else none) else (some out7)
noncomputable def erasureref30_Select  (k : Nat) (rows0 : (List TEntry)) (column1 : Int) (v2 : TValue) : Option (List TEntry) := erasureref30_Select.p1 k rows0 column1 0 v2 ([] : List TEntry)
noncomputable def erasureref30_Select.t : List Item := [.code (bodyOf Try.f15)]
noncomputable def erasureref30_Select.s (rows0 : (List TEntry)) (column1 : Int) (v2 : TValue) : St := ⟨frOf Try.f15.ntmps 0 [(0, .p (eL 2 cEntry dEntry rows0)), (1, .p (.int .i64 column1)), (2, .agg ((cValue v2).map .p))], []⟩
noncomputable def erasureref30_Select.p1.t : List Item := nav 9 [] erasureref30_Select.t
noncomputable def erasureref30_Select.p1.s (rows0 : (List TEntry)) (column1 : Int) (i8 : Int) (v5b : TValue) (out7 : (List TEntry)) : St := ⟨frOf Try.f15.ntmps 0 [(0, .p (eL 2 cEntry dEntry rows0)), (1, .p (.int .i64 column1)), (5, .ptr 0 0 0), (7, .sref 1 36 2 (out7).length), (8, .p (.int .i64 i8))], [.box ((cValue v5b).map .p), (oL true 36 2 cEntry dEntry out7)]⟩
theorem erasureref30_Select.p1.run   : ∀ (k : Nat) (rows0 : (List TEntry)) (column1 : Int) (i8 : Int) (v5b : TValue) (out7 : (List TEntry)) (r : (List TEntry)), erasureref30_Select.p1 k rows0 column1 i8 v5b out7 = some r → RunC Try.prog Try.f15 erasureref30_Select.p1.t (erasureref30_Select.p1.s rows0 column1 i8 v5b out7) (.sref 0 36 2 (r).length) [(oL true 36 2 cEntry dEntry (r))] := by
  intro k
  induction k with
  | zero => intro rows0 column1 i8 v5b out7 r h; simp [erasureref30_Select.p1] at h
  | succ k ih =>
    intro rows0 column1 i8 v5b out7 r h
    rw [erasureref30_Select.p1] at h
    rcases ite_or h with ⟨g_1, h⟩ | ⟨g_1, h⟩
    · obtain ⟨g_2, h⟩ := ite_some h
      obtain ⟨y_3, e_4, h⟩ := bind_or h
      obtain ⟨y_5, e_6, h⟩ := bind_or h
      rcases ite_or h with ⟨g_7, h⟩ | ⟨g_7, h⟩
      · obtain ⟨g_8, h⟩ := ite_some h
        exact RunC.go [.n 2, .r [(3, .dec true)], .n 5, .r [(6, .call (.agg ((cValue y_3).map .p)) []), (8, .call (.agg ((cValue y_5).map .p)) []), (9, .dec true)], .n 1, .r [(5, .obj (oL true 36 2 cEntry dEntry [(rows0.getD i8.toNat dEntry)])), (6, .obj (oL true 36 2 cEntry dEntry (out7 ++ ([(rows0.getD i8.toNat dEntry)]))))], .n 3, .k [0, 1, 5, 7, 8]] (by kernel_rfl) (Obs.of (by kernel_rfl) (And.intro g_1 (And.intro g_2 (And.intro (erasureref30_at.spec e_4) (And.intro (erasureref01_Clean.spec e_6) (And.intro g_7 (And.intro g_2 (And.intro (le_one 36 2 cEntry dEntry (rows0.getD i8.toNat dEntry)) (And.intro g_8 (le_app 36 2 cEntry dEntry out7 ([(rows0.getD i8.toNat dEntry)]))))))))))) (ih _ _ _ _ _ r h)
      · exact RunC.go [.n 2, .r [(3, .dec true)], .n 5, .r [(6, .call (.agg ((cValue y_3).map .p)) []), (8, .call (.agg ((cValue y_5).map .p)) []), (9, .dec false)], .n 5, .k [0, 1, 5, 7, 8]] (by kernel_rfl) (Obs.of (by kernel_rfl) (And.intro g_1 (And.intro g_2 (And.intro (erasureref30_at.spec e_4) (And.intro (erasureref01_Clean.spec e_6) (nt g_7)))))) (ih _ _ _ _ _ r h)
    · obtain rfl := Option.some.inj h
      exact RunC.out [.n 2, .r [(3, .dec false)], .n 4] (by kernel_rfl) (Obs.of (by kernel_rfl) (nt g_1))
theorem erasureref30_Select.run   {k : Nat} {rows0 : (List TEntry)} {column1 : Int} {v2 : TValue} {r : (List TEntry)} (h : erasureref30_Select k rows0 column1 v2 = some r) : RunC Try.prog Try.f15 erasureref30_Select.t (erasureref30_Select.s rows0 column1 v2) (.sref 0 36 2 (r).length) [(oL true 36 2 cEntry dEntry (r))] := by
  unfold erasureref30_Select at h
  exact RunC.go [.n 1, .r [(1, .obj (oL true 36 2 cEntry dEntry ([] : List TEntry)))], .n 1, .r [(0, .obj (oL true 36 2 cEntry dEntry ([] : List TEntry)))], .n 5, .k [0, 1, 5, 7, 8]] (by kernel_rfl) (Obs.of (by kernel_rfl) (And.intro (le_nil 36 2 cEntry dEntry) (le_nil 36 2 cEntry dEntry))) (erasureref30_Select.p1.run k _ _ _ _ _ r h)
theorem erasureref30_Select.p1.mono   : ∀ (k k' : Nat) (rows0 : (List TEntry)) (column1 : Int) (i8 : Int) (v5b : TValue) (out7 : (List TEntry)) (r : (List TEntry)), k ≤ k' → erasureref30_Select.p1 k rows0 column1 i8 v5b out7 = some r → erasureref30_Select.p1 k' rows0 column1 i8 v5b out7 = some r := by
  intro k
  induction k with
  | zero => intro k' rows0 column1 i8 v5b out7 r hk h; simp [erasureref30_Select.p1] at h
  | succ k ih =>
    intro k' rows0 column1 i8 v5b out7 r hk h
    obtain ⟨k', rfl⟩ : ∃ m, k' = m + 1 := ⟨k' - 1, by omega⟩
    replace hk := Nat.le_of_succ_le_succ hk
    rw [erasureref30_Select.p1] at h ⊢
    rcases ite_or h with ⟨g_1, h⟩ | ⟨g_1, h⟩
    · refine itp g_1 ?_
      obtain ⟨g_2, h⟩ := ite_some h
      refine itp g_2 ?_
      obtain ⟨y_3, e_4, h⟩ := bind_or h
      refine bnd (erasureref30_at.mono _ _ _ _ _ hk e_4) ?_
      obtain ⟨y_5, e_6, h⟩ := bind_or h
      refine bnd (erasureref01_Clean.mono _ _ _ _ hk e_6) ?_
      rcases ite_or h with ⟨g_7, h⟩ | ⟨g_7, h⟩
      · refine itp g_7 ?_
        obtain ⟨g_8, h⟩ := ite_some h
        refine itp g_8 ?_
        exact ih _ _ _ _ _ _ r hk h
      · refine itn g_7 ?_
        exact ih _ _ _ _ _ _ r hk h
    · refine itn g_1 ?_
      exact h
theorem erasureref30_Select.mono   : ∀ (k k' : Nat) (rows0 : (List TEntry)) (column1 : Int) (v2 : TValue) (r : (List TEntry)), k ≤ k' → erasureref30_Select k rows0 column1 v2 = some r → erasureref30_Select k' rows0 column1 v2 = some r := by
  intro k k' rows0 column1 v2 r hk h
  unfold erasureref30_Select at h ⊢
  exact erasureref30_Select.p1.mono _ _ _ _ _ _ _ r hk h
theorem erasureref30_Select.spec {k : Nat} {rows0 : (List TEntry)} {column1 : Int} {v2 : TValue} {r : (List TEntry)} (h : erasureref30_Select k rows0 column1 v2 = some r) : Spec Try.prog 15 [.p (eL 2 cEntry dEntry rows0), .p (.int .i64 column1), .agg ((cValue v2).map .p)] (.sref 0 36 2 (r).length) [(oL true 36 2 cEntry dEntry (r))] :=
  spec_of mix Try.func15 (body := bodyOf Try.f15) (by kernel_rfl) (by kernel_rfl) (erasureref30_Select.run h)
end Go.Proofs.YtjhnpaenhdbhpabV
set_option linter.unusedVariables false
set_option linter.unusedSimpArgs false
set_option maxRecDepth 100000
namespace Go.Proofs.YtjhnpaenhdbhpabV
open Go Go.RowKit
noncomputable def erasureref30_without.p1  : Nat → (List TCached) → Int → TValue → (List TCached) → Option (List TCached)
  | 0, _, _, _, _ => none
  | k + 1, s0, i6, v3b, out5 => if (decide (i6 < ((s0).length : Int))) = true then (if 0 ≤ i6 ∧ i6 < ((s0).length : Int) then (if (!(((s0.getD i6.toNat dCached).f0.f0 == v3b.f0) && (((s0.getD i6.toNat dCached).f0.f1 == v3b.f1) && ((((s0.getD i6.toNat dCached).f0.f2).data.toList == v3b.f2.data.toList) && true)))) = true then (if (out5).length + ([(s0.getD i6.toNat dCached)]).length ≤ maxLen ∧ ((out5).length + ([(s0.getD i6.toNat dCached)]).length) * 64 ≤ 140737488355328 then (erasureref30_without.p1 k s0 (IntKind.i64.wrap (i6 + 1)) v3b (out5 ++ ([(s0.getD i6.toNat dCached)]))) else none) else (erasureref30_without.p1 k s0 (IntKind.i64.wrap (i6 + 1)) v3b out5)) else none) else (some out5)
noncomputable def erasureref30_without  (k : Nat) (s0 : (List TCached)) (v1 : TValue) : Option (List TCached) := erasureref30_without.p1 k s0 0 v1 ([] : List TCached)
noncomputable def erasureref30_without.t : List Item := [.code (bodyOf Try.f46)]
noncomputable def erasureref30_without.s (s0 : (List TCached)) (v1 : TValue) : St := ⟨frOf Try.f46.ntmps 0 [(0, .p (eL 5 cCached dCached s0)), (1, .agg ((cValue v1).map .p))], []⟩
noncomputable def erasureref30_without.p1.t : List Item := nav 9 [] erasureref30_without.t
noncomputable def erasureref30_without.p1.s (s0 : (List TCached)) (i6 : Int) (v3b : TValue) (out5 : (List TCached)) : St := ⟨frOf Try.f46.ntmps 0 [(0, .p (eL 5 cCached dCached s0)), (3, .ptr 0 0 0), (5, .sref 1 46 5 (out5).length), (6, .p (.int .i64 i6))], [.box ((cValue v3b).map .p), (oL true 46 5 cCached dCached out5)]⟩
theorem erasureref30_without.p1.run   : ∀ (k : Nat) (s0 : (List TCached)) (i6 : Int) (v3b : TValue) (out5 : (List TCached)) (r : (List TCached)), erasureref30_without.p1 k s0 i6 v3b out5 = some r → RunC Try.prog Try.f46 erasureref30_without.p1.t (erasureref30_without.p1.s s0 i6 v3b out5) (.sref 0 46 5 (r).length) [(oL true 46 5 cCached dCached (r))] := by
  intro k
  induction k with
  | zero => intro s0 i6 v3b out5 r h; simp [erasureref30_without.p1] at h
  | succ k ih =>
    intro s0 i6 v3b out5 r h
    rw [erasureref30_without.p1] at h
    rcases ite_or h with ⟨g_1, h⟩ | ⟨g_1, h⟩
    · obtain ⟨g_2, h⟩ := ite_some h
      rcases ite_or h with ⟨g_3, h⟩ | ⟨g_3, h⟩
      · obtain ⟨g_4, h⟩ := ite_some h
        exact RunC.go [.n 2, .r [(3, .dec true)], .n 5, .r [(6, .dec true)], .n 1, .r [(5, .obj (oL true 46 5 cCached dCached [(s0.getD i6.toNat dCached)])), (6, .obj (oL true 46 5 cCached dCached (out5 ++ ([(s0.getD i6.toNat dCached)]))))], .n 3, .k [0, 3, 5, 6]] (by kernel_rfl) (Obs.of (by kernel_rfl) (And.intro g_1 (And.intro g_2 (And.intro g_3 (And.intro g_2 (And.intro (le_one 46 5 cCached dCached (s0.getD i6.toNat dCached)) (And.intro g_4 (le_app 46 5 cCached dCached out5 ([(s0.getD i6.toNat dCached)]))))))))) (ih _ _ _ _ r h)
      · exact RunC.go [.n 2, .r [(3, .dec true)], .n 5, .r [(6, .dec false)], .n 5, .k [0, 3, 5, 6]] (by kernel_rfl) (Obs.of (by kernel_rfl) (And.intro g_1 (And.intro g_2 (nt g_3)))) (ih _ _ _ _ r h)
    · obtain rfl := Option.some.inj h
      exact RunC.out [.n 2, .r [(3, .dec false)], .n 4] (by kernel_rfl) (Obs.of (by kernel_rfl) (nt g_1))
theorem erasureref30_without.run   {k : Nat} {s0 : (List TCached)} {v1 : TValue} {r : (List TCached)} (h : erasureref30_without k s0 v1 = some r) : RunC Try.prog Try.f46 erasureref30_without.t (erasureref30_without.s s0 v1) (.sref 0 46 5 (r).length) [(oL true 46 5 cCached dCached (r))] := by
  unfold erasureref30_without at h
  exact RunC.go [.n 1, .r [(1, .obj (oL true 46 5 cCached dCached ([] : List TCached)))], .n 1, .r [(0, .obj (oL true 46 5 cCached dCached ([] : List TCached)))], .n 5, .k [0, 3, 5, 6]] (by kernel_rfl) (Obs.of (by kernel_rfl) (And.intro (le_nil 46 5 cCached dCached) (le_nil 46 5 cCached dCached))) (erasureref30_without.p1.run k _ _ _ _ r h)
theorem erasureref30_without.p1.mono   : ∀ (k k' : Nat) (s0 : (List TCached)) (i6 : Int) (v3b : TValue) (out5 : (List TCached)) (r : (List TCached)), k ≤ k' → erasureref30_without.p1 k s0 i6 v3b out5 = some r → erasureref30_without.p1 k' s0 i6 v3b out5 = some r := by
  intro k
  induction k with
  | zero => intro k' s0 i6 v3b out5 r hk h; simp [erasureref30_without.p1] at h
  | succ k ih =>
    intro k' s0 i6 v3b out5 r hk h
    obtain ⟨k', rfl⟩ : ∃ m, k' = m + 1 := ⟨k' - 1, by omega⟩
    replace hk := Nat.le_of_succ_le_succ hk
    rw [erasureref30_without.p1] at h ⊢
    rcases ite_or h with ⟨g_1, h⟩ | ⟨g_1, h⟩
    · refine itp g_1 ?_
      obtain ⟨g_2, h⟩ := ite_some h
      refine itp g_2 ?_
      rcases ite_or h with ⟨g_3, h⟩ | ⟨g_3, h⟩
      · refine itp g_3 ?_
        obtain ⟨g_4, h⟩ := ite_some h
        refine itp g_4 ?_
        exact ih _ _ _ _ _ r hk h
      · refine itn g_3 ?_
        exact ih _ _ _ _ _ r hk h
    · refine itn g_1 ?_
      exact h
theorem erasureref30_without.mono   : ∀ (k k' : Nat) (s0 : (List TCached)) (v1 : TValue) (r : (List TCached)), k ≤ k' → erasureref30_without k s0 v1 = some r → erasureref30_without k' s0 v1 = some r := by
  intro k k' s0 v1 r hk h
  unfold erasureref30_without at h ⊢
  exact erasureref30_without.p1.mono _ _ _ _ _ _ r hk h
theorem erasureref30_without.spec {k : Nat} {s0 : (List TCached)} {v1 : TValue} {r : (List TCached)} (h : erasureref30_without k s0 v1 = some r) : Spec Try.prog 46 [.p (eL 5 cCached dCached s0), .agg ((cValue v1).map .p)] (.sref 0 46 5 (r).length) [(oL true 46 5 cCached dCached (r))] :=
  spec_of mix Try.func46 (body := bodyOf Try.f46) (by kernel_rfl) (by kernel_rfl) (erasureref30_without.run h)
end Go.Proofs.YtjhnpaenhdbhpabV
