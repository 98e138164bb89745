/- Part of the proof of ReleasePublishes: printed by programs of this repo out of the translation, and by hand. Each theorem's conditions stand in its statement. -/
import Derived.Laws.Entries
import Derived.WideShapes
import Derived.ProofKit
import Derived.OpenShut
import Derived.ShutString
import Derived.ChangeOld
import Derived.SizedLaws
import Derived.ChangeSlices
import Derived.Test.YtjhnpaenhdbhpaaMReleasePublishesa
import Derived.Test.YtjhnpaenhdbhpaaMReleasePublishesb
import Derived.Test.YtjhnpaenhdbhpaaMReleasePublishesc
import Derived.Test.YtjhnpaenhdbhpaaMReleasePublishesd
import Derived.Test.YtjhnpaenhdbhpaaMReleasePublishese
import Derived.Test.YtjhnpaenhdbhpaaMReleasePublishesf
import Derived.Test.YtjhnpaenhdbhpaaMReleasePublishesg
namespace Go.Proofs.Ytjhnpaenhdbhpaa.P
open Go.RowKit Go.Proofs.YtjhnpaenhdbhpaaW.PrintWords Go.Proofs.YtjhnpaenhdbhpaaW.PrintLast Go.Proofs.YtjhnpaenhdbhpaaW.PrintMore
attribute [local go_sem] max2_int min2_int max_two min_two max_three min_three max_four min_four
set_option linter.unusedVariables false
set_option linter.unusedSimpArgs false
def erasurelaw35_ReleasePublishes.f (k : Nat) (a0_0 : ByteArray) (a0_1 : ByteArray) (a0_2 : Int) (a1 : Int) (l2 : List (S41)) : Option (Bool) := (erasurelaw35_short.f k l2).bind fun t281 => (if t281 = true then ((erasureref06_Normalize.f k l2).bind fun bt283 => ((release_Publish.f k a0_0 a0_1 a0_2 a1 l2).bind fun t287 => ((erasureref35_Publish.f k a0_0 a0_1 a0_2 a1 l2).bind fun t290 => ((erasureref35_Same.f k t287 t290).bind fun t293 => (if t293 = true then ((release_Publish.f k a0_0 a0_1 a0_2 a1 bt283.1).bind fun t294 => ((erasureref35_Publish.f k a0_0 a0_1 a0_2 a1 bt283.1).bind fun t297 => ((erasureref35_Same.f k t294 t297).bind fun t300 => (if t300 = true then ((erasurelaw35_awake.f k).bind fun t301 => (some t301)) else (some false))))) else (some false)))))) else ((erasurelaw35_awake.f k).bind fun t282 => (some t282)))
def erasurelaw35_ReleasePublishes.T4 : Bool × List (List Nat × List Nat) := (true, [([], []), ([], []), ([], []), ([0, 1, 2], [0, 1, 2]), ([], []), ([], []), ([], []), ([4, 5, 6, 3], [4, 5, 6]), ([3, 7, 7], [3, 7]), ([8, 8], [8]), ([9], [9]), ([9], [9]), ([9], [9]), ([10, 11, 12, 9, 9], [9, 10, 11, 12]), ([9], [9]), ([9], [9]), ([9], [9]), ([14, 15, 16, 13, 9], [9, 14, 15, 16]), ([13, 17, 17, 9], [9, 13, 17]), ([9, 18], [9, 18]), ([19, 18], [19]), ([20, 20], [20]), ([20, 21], [20, 21]), ([22, 21, 0, 1, 2, 3, 4, 5, 6, 7, 8, 9, 10, 11, 12, 13, 14, 15, 16, 17, 18, 19, 20, 21, 22], [22])])
def erasurelaw35_ReleasePublishes.B4 : List Nat := [0, 0, 0, 7, 0, 0, 0, 127, 255, 511, 1023, 1023, 1023, 8191, 1023, 1023, 1023, 131071, 262143, 524287, 1048575, 2097151, 4194303, 8388607]
theorem erasurelaw35_ReleasePublishes.tab4 : rtab .any (opsOf Try.f3 4) = erasurelaw35_ReleasePublishes.T4 := by kernel_rfl
theorem erasurelaw35_ReleasePublishes.bits4 : waitsOk erasurelaw35_ReleasePublishes.T4.2 erasurelaw35_ReleasePublishes.B4 = true := by kernel_rfl
set_option maxHeartbeats 8000000 in
set_option maxRecDepth 100000 in
theorem erasurelaw35_ReleasePublishes.calls (k : Nat) (a0_0 : ByteArray) (a0_1 : ByteArray) (a0_2 : Int) (a1 : Int) (A2 : Option Addr) (c2 : Nat) (l2 : List (S41)) (r : Bool) (w : World) (hr2 : Kd.C k41 w A2 l2.length l2) (hc2 : l2.length ≤ c2) (h : erasurelaw35_ReleasePublishes.f k a0_0 a0_1 a0_2 a1 l2 = some r) :
  Calls Try.prog 3 #[.agg #[.string a0_0, .string a0_1, .int .i64 a0_2], .int .i64 a1, .slice A2 l2.length c2] w fun e w' => e = .returned (.bool r) ∧ Below w.heap.size w w' := by
 have hu23 := Try.underlying23
 have HR2 := Aside0.mk hr2
 have HC2 := Aside0.mk hc2
 clear hr2 hc2
 have HB := Aside0.mk (Below.refl w.heap.size w)
 have H : ((erasurelaw35_short.f k l2).bind fun t281 => (if t281 = true then ((erasureref06_Normalize.f k l2).bind fun bt283 => ((release_Publish.f k a0_0 a0_1 a0_2 a1 l2).bind fun t287 => ((erasureref35_Publish.f k a0_0 a0_1 a0_2 a1 l2).bind fun t290 => ((erasureref35_Same.f k t287 t290).bind fun t293 => (if t293 = true then ((release_Publish.f k a0_0 a0_1 a0_2 a1 bt283.1).bind fun t294 => ((erasureref35_Publish.f k a0_0 a0_1 a0_2 a1 bt283.1).bind fun t297 => ((erasureref35_Same.f k t294 t297).bind fun t300 => (if t300 = true then ((erasurelaw35_awake.f k).bind fun t301 => (some t301)) else (some false))))) else (some false)))))) else ((erasurelaw35_awake.f k).bind fun t282 => (some t282)))) = some r := h
 clear h
 replace H := Option.bind_eq_some_iff.mp H
 obtain ⟨t281, A40, H⟩ := H
 replace H : (if t281 = true then ((erasureref06_Normalize.f k l2).bind fun bt283 => ((release_Publish.f k a0_0 a0_1 a0_2 a1 l2).bind fun t287 => ((erasureref35_Publish.f k a0_0 a0_1 a0_2 a1 l2).bind fun t290 => ((erasureref35_Same.f k t287 t290).bind fun t293 => (if t293 = true then ((release_Publish.f k a0_0 a0_1 a0_2 a1 bt283.1).bind fun t294 => ((erasureref35_Publish.f k a0_0 a0_1 a0_2 a1 bt283.1).bind fun t297 => ((erasureref35_Same.f k t294 t297).bind fun t300 => (if t300 = true then ((erasurelaw35_awake.f k).bind fun t301 => (some t301)) else (some false))))) else (some false)))))) else ((erasurelaw35_awake.f k).bind fun t282 => (some t282))) = some r := H
 have A4 := Aside0.mk A40
 clear A40
 by_cases c5 : t281 = true
 ·subst c5
  have H1 : ((erasureref06_Normalize.f k l2).bind fun bt283 => ((release_Publish.f k a0_0 a0_1 a0_2 a1 l2).bind fun t287 => ((erasureref35_Publish.f k a0_0 a0_1 a0_2 a1 l2).bind fun t290 => ((erasureref35_Same.f k t287 t290).bind fun t293 => (if t293 = true then ((release_Publish.f k a0_0 a0_1 a0_2 a1 bt283.1).bind fun t294 => ((erasureref35_Publish.f k a0_0 a0_1 a0_2 a1 bt283.1).bind fun t297 => ((erasureref35_Same.f k t294 t297).bind fun t300 => (if t300 = true then ((erasurelaw35_awake.f k).bind fun t301 => (some t301)) else (some false))))) else (some false)))))) = some r := by rw [if_pos rfl] at H; exact H
  clear H
  have H := H1
  clear H1
  replace H := Option.bind_eq_some_iff.mp H
  obtain ⟨⟨t283, t286⟩, A60, H⟩ := H
  replace H : ((release_Publish.f k a0_0 a0_1 a0_2 a1 l2).bind fun t287 => ((erasureref35_Publish.f k a0_0 a0_1 a0_2 a1 l2).bind fun t290 => ((erasureref35_Same.f k t287 t290).bind fun t293 => (if t293 = true then ((release_Publish.f k a0_0 a0_1 a0_2 a1 t283).bind fun t294 => ((erasureref35_Publish.f k a0_0 a0_1 a0_2 a1 t283).bind fun t297 => ((erasureref35_Same.f k t294 t297).bind fun t300 => (if t300 = true then ((erasurelaw35_awake.f k).bind fun t301 => (some t301)) else (some false))))) else (some false))))) = some r := H
  have A6 := Aside0.mk A60
  clear A60
  replace H := Option.bind_eq_some_iff.mp H
  obtain ⟨t287, A70, H⟩ := H
  replace H : ((erasureref35_Publish.f k a0_0 a0_1 a0_2 a1 l2).bind fun t290 => ((erasureref35_Same.f k t287 t290).bind fun t293 => (if t293 = true then ((release_Publish.f k a0_0 a0_1 a0_2 a1 t283).bind fun t294 => ((erasureref35_Publish.f k a0_0 a0_1 a0_2 a1 t283).bind fun t297 => ((erasureref35_Same.f k t294 t297).bind fun t300 => (if t300 = true then ((erasurelaw35_awake.f k).bind fun t301 => (some t301)) else (some false))))) else (some false)))) = some r := H
  have A7 := Aside0.mk A70
  clear A70
  replace H := Option.bind_eq_some_iff.mp H
  obtain ⟨t290, A80, H⟩ := H
  replace H : ((erasureref35_Same.f k t287 t290).bind fun t293 => (if t293 = true then ((release_Publish.f k a0_0 a0_1 a0_2 a1 t283).bind fun t294 => ((erasureref35_Publish.f k a0_0 a0_1 a0_2 a1 t283).bind fun t297 => ((erasureref35_Same.f k t294 t297).bind fun t300 => (if t300 = true then ((erasurelaw35_awake.f k).bind fun t301 => (some t301)) else (some false))))) else (some false))) = some r := H
  have A8 := Aside0.mk A80
  clear A80
  replace H := Option.bind_eq_some_iff.mp H
  obtain ⟨t293, A90, H⟩ := H
  replace H : (if t293 = true then ((release_Publish.f k a0_0 a0_1 a0_2 a1 t283).bind fun t294 => ((erasureref35_Publish.f k a0_0 a0_1 a0_2 a1 t283).bind fun t297 => ((erasureref35_Same.f k t294 t297).bind fun t300 => (if t300 = true then ((erasurelaw35_awake.f k).bind fun t301 => (some t301)) else (some false))))) else (some false)) = some r := H
  have A9 := Aside0.mk A90
  clear A90
  by_cases c10 : t293 = true
  ·subst c10
   have H1 : ((release_Publish.f k a0_0 a0_1 a0_2 a1 t283).bind fun t294 => ((erasureref35_Publish.f k a0_0 a0_1 a0_2 a1 t283).bind fun t297 => ((erasureref35_Same.f k t294 t297).bind fun t300 => (if t300 = true then ((erasurelaw35_awake.f k).bind fun t301 => (some t301)) else (some false))))) = some r := by rw [if_pos rfl] at H; exact H
   clear H
   have H := H1
   clear H1
   replace H := Option.bind_eq_some_iff.mp H
   obtain ⟨t294, A110, H⟩ := H
   replace H : ((erasureref35_Publish.f k a0_0 a0_1 a0_2 a1 t283).bind fun t297 => ((erasureref35_Same.f k t294 t297).bind fun t300 => (if t300 = true then ((erasurelaw35_awake.f k).bind fun t301 => (some t301)) else (some false)))) = some r := H
   have A11 := Aside0.mk A110
   clear A110
   replace H := Option.bind_eq_some_iff.mp H
   obtain ⟨t297, A120, H⟩ := H
   replace H : ((erasureref35_Same.f k t294 t297).bind fun t300 => (if t300 = true then ((erasurelaw35_awake.f k).bind fun t301 => (some t301)) else (some false))) = some r := H
   have A12 := Aside0.mk A120
   clear A120
   replace H := Option.bind_eq_some_iff.mp H
   obtain ⟨t300, A130, H⟩ := H
   replace H : (if t300 = true then ((erasurelaw35_awake.f k).bind fun t301 => (some t301)) else (some false)) = some r := H
   have A13 := Aside0.mk A130
   clear A130
   by_cases c14 : t300 = true
   ·subst c14
    have H1 : ((erasurelaw35_awake.f k).bind fun t301 => (some t301)) = some r := by rw [if_pos rfl] at H; exact H
    clear H
    have H := H1
    clear H1
    replace H := Option.bind_eq_some_iff.mp H
    obtain ⟨t301, A150, H⟩ := H
    replace H : (some t301) = some r := H
    have A15 := Aside0.mk A150
    clear A150
    obtain rfl := Option.some.inj H
    go_enter Try.func3, Try.ntmps3
    try go_wp2_with (first | ((with_reducible refine gate_dst (N := 3) rfl ?_); refine box_event ?hg (N := 3) ?hd (cs := #[.string a0_0, .string a0_1, .int .i64 a0_2]) (t := 23) ?hr ?_; (case hd => rfl); (case hg => rfl); (case hr => first | (go_simp; done) | (go_simp; rfl)); intro gb280 hg w16 hbox hb; have n0_ := Aside0.mk (below_step (by repeat (first | (with_reducible first | exact HB.out | apply below_alloc | apply pw_below_drewN | apply below_drew1) | exact HB.out)) hb); have n1_ := Aside0.mk (hbox); have n2_ := Aside0.mk ((by rw [hg]; exact (below_size (by repeat (first | (with_reducible first | exact HB.out | apply below_alloc | apply pw_below_drewN | apply below_drew1) | exact HB.out))) : w.heap.size ≤ gb280)); have n3_ := Aside0.mk ((by rw [hg]; exact (below_size (by repeat (first | (with_reducible first | exact HB.out | apply below_alloc | apply pw_below_drewN | apply below_drew1) | exact HB.out))) : w.heap.size ≤ gb280)); clear HB; have HB := n0_; have BK280 := n1_; have GW280 := n2_; have GE280 := n3_; clear n0_ n1_ n2_ n3_; clear hb hbox hg) | ((with_reducible refine gate_callee (f := 11) rfl ?_); refine goesL_ (some 10) rfl rfl Try.func11 (by kernel_rfl) rfl #[.slice A2 l2.length c2] rfl (by (try simp only [List.map_toArray, List.map_cons, List.map_nil]); first | done | rfl | (simp only [List.length_drop, List.length_take]; rfl)) ?_; (with_reducible refine (erasurelaw35_short.calls k _ _ l2 true _ ?side1 ?side2 A4.out).mono ?_); (case side1 => repeat (first | exact (Kd.C_below HR2.out HB.out) | (with_reducible refine Kd.C_alloc ?_ _) | (with_reducible refine Kd.C_drewN ?_ _) | (with_reducible refine Kd.C_drew ?_))); (case side2 => exact HC2.out); rintro e w' ⟨rfl, ⟨nd, rfl⟩⟩; refine ⟨_, rfl, ?_⟩) | ((with_reducible refine gate_callee (f := 13) rfl ?_); refine goesL_ (some 15) rfl rfl Try.func13 (by kernel_rfl) rfl #[.slice A2 l2.length c2] rfl (by (try simp only [List.map_toArray, List.map_cons, List.map_nil]); first | done | rfl | (simp only [List.length_drop, List.length_take]; rfl)) ?_; (with_reducible refine (erasureref06_Normalize.calls k (fun k_ => k_ < w.heap.size) _ _ l2 t283 t286 _ ?side1 A6.out).mono ?_); (case side1 => exact Kd.V_mk HC2.out (Kd.F_below (Kd.C_F k41_heap HR2.out) (by repeat (first | (with_reducible first | exact HB.out | apply below_alloc | apply pw_below_drewN | apply below_drew1 | refine below_set ?_ GE280.out) | exact HB.out)))); rintro e w17 ⟨v284, rfl, ho0, hb⟩; refine ⟨_, rfl, ?_⟩; have n0_ := Aside0.mk (Kd.V_lower (Kd.V_mono (ok' := fun k_ => k_ ≠ gb280) ho0 (fun k_ hk_ => Or.elim hk_ (fun hs_ => fun e_ => Nat.not_le.2 hs_ (by rw [e_]; exact GW280.out)) (fun hn_ => (Kd.freshB (g := gb280) (o := .cells #[.string a0_0, .string a0_1, .int .i64 a0_2] 23 (0, 0)) (by (with_reducible repeat (first | refine blk_drewN ?_ _ | refine blk_drew ?_ | refine blk_alloc ?_ _)); exact BK280.out) k_ hn_)))) (below_size (by repeat (first | (with_reducible first | exact HB.out | apply below_alloc | apply pw_below_drewN | apply below_drew1 | refine below_set ?_ GE280.out) | exact HB.out)))); have n1_ := Aside0.mk (blk_below (g := gb280) (o := .cells #[.string a0_0, .string a0_1, .int .i64 a0_2] 23 (0, 0)) (by (with_reducible repeat (first | refine blk_drewN ?_ _ | refine blk_drew ?_ | refine blk_alloc ?_ _)); exact BK280.out) hb); have n2_ := Aside0.mk (below_step (by repeat (first | (with_reducible first | exact HB.out | apply below_alloc | apply pw_below_drewN | apply below_drew1 | refine below_set ?_ GE280.out) | exact HB.out)) hb); clear BK280; clear HB; have HO285 := n0_; have BK280 := n1_; have HB := n2_; clear n0_ n1_ n2_; (try clear hb); (try clear hb2); (try clear hk); (try clear hi); (try clear ho0)))
    have n0_ := Aside0.mk (Kd.V_drew HO285.out)
    have n1_ := Aside0.mk (blk_drew BK280.out)
    have n2_ := Aside0.mk (below_drew1 HB.out)
    clear HO285
    clear BK280
    clear HB
    have HO285 := n0_
    have BK280 := n1_
    have HB := n2_
    clear n0_ n1_ n2_
    refine start_ (n := 24) (S := fun w' => w'.cell? ⟨gb280, 0, none⟩ = some (.string a0_0) ∧ w'.cell? ⟨gb280, 1, none⟩ = some (.string a0_1) ∧ w'.cell? ⟨gb280, 2, none⟩ = some (.int .i64 a0_2)) (ds := []) #[false, false, false, false, false, false, false, false, false, false, false, false, false, false, false, false, false, false, false, false, false, false, false, false] (by kernel_rfl) rfl rfl ⟨(blk_cell BK280.out 0).trans rfl, (blk_cell BK280.out 1).trans rfl, (blk_cell BK280.out 2).trans rfl⟩ (fun hHeld => ?_); refine with_tabW erasurelaw35_ReleasePublishes.tab4 erasurelaw35_ReleasePublishes.bits4 (fun HT_ HW_ => ?_)
    generalize w17.drew = w18 at HO285 BK280 HB hHeld ⊢
    refine pu (i := 1) (N := some 19) (bl 24 2) (any_of HT_.out (by kernel_rfl)) ?_
    refine pu (i := 2) (N := some 20) (bl 24 6) (any_of HT_.out (by kernel_rfl)) ?_
    refine pu (i := 5) (N := some 23) (bl 24 38) (any_of HT_.out (by kernel_rfl)) ?_
    refine pu (i := 6) (N := some 24) (bl 24 102) (any_of HT_.out (by kernel_rfl)) ?_
    refine ta (i := 0) (N := some 18) (bl 24 103) (take_ofW HT_.out HW_.out (by kernel_rfl)) hHeld ?_
    refine ta (i := 4) (N := some 22) (bl 24 119) (take_ofW HT_.out HW_.out (by kernel_rfl)) hHeld ?_
    refine one_ (i := 3) (N := some 21) (bl 24 127) rfl rfl (one_of HT_.out (by kernel_rfl)) (by decide) (fun K hK => ?_)
    refine goes_ Try.func15 (by kernel_rfl) rfl #[.agg #[.string a0_0, .string a0_1, .int .i64 a0_2], .int .i64 a1, .slice A2 l2.length c2] (by rfl) rfl rfl (by (try simp only [List.map_toArray, List.map_cons, List.map_nil]); first | done | rfl | (simp only [List.length_drop, List.length_take]; rfl)) ?_
    with_reducible refine (release_Publish.calls k a0_0 a0_1 a0_2 a1 _ _ l2 t287 _ ?side1 ?side2 A7.out).mono ?_
    (case side1 => repeat (first | exact (Kd.C_below HR2.out HB.out) | (with_reducible refine Kd.C_alloc ?_ _) | (with_reducible refine Kd.C_drewN ?_ _) | (with_reducible refine Kd.C_drew ?_)))
    (case side2 => exact HC2.out)
    rintro e w19 ⟨v288, rfl, ho0, hb⟩
    refine ⟨_, rfl, ?_⟩
    have n0_ := Aside0.mk (Kd.V_below (by (with_reducible repeat (first | apply Kd.V_alloc | apply Kd.V_drewN | apply Kd.V_drew)); exact HO285.out) hb)
    have n1_ := Aside0.mk (Kd.V_lower (Kd.V_mono (ok' := fun k_ => k_ ≠ gb280) ho0 (fun k_ hk_ => (Kd.freshB (g := gb280) (o := .cells #[.string a0_0, .string a0_1, .int .i64 a0_2] 23 (0, 0)) (by (with_reducible repeat (first | refine blk_drewN ?_ _ | refine blk_drew ?_ | refine blk_alloc ?_ _)); exact BK280.out) k_ hk_))) (below_size (by repeat (first | (with_reducible first | exact HB.out | apply below_alloc | apply pw_below_drewN | apply below_drew1 | refine below_set ?_ GE280.out) | exact HB.out))))
    have n2_ := Aside0.mk (blk_below (g := gb280) (o := .cells #[.string a0_0, .string a0_1, .int .i64 a0_2] 23 (0, 0)) (by (with_reducible repeat (first | refine blk_drewN ?_ _ | refine blk_drew ?_ | refine blk_alloc ?_ _)); exact BK280.out) hb)
    have n3_ := Aside0.mk (below_step (by repeat (first | (with_reducible first | exact HB.out | apply below_alloc | apply pw_below_drewN | apply below_drew1 | refine below_set ?_ GE280.out) | exact HB.out)) hb)
    clear HO285
    clear BK280
    clear HB
    have HO285 := n0_
    have HO289 := n1_
    have BK280 := n2_
    have HB := n3_
    clear n0_ n1_ n2_ n3_
    (try clear hb)
    (try clear hb2)
    (try clear hk)
    (try clear hi)
    (try clear ho0)
    refine hK.out _ _ ⟨(blk_cell BK280.out 0).trans rfl, (blk_cell BK280.out 1).trans rfl, (blk_cell BK280.out 2).trans rfl⟩ (fun hHeld => ?_)
    clear hK K
    refine norm_ (a' := ?_) ?_ ?_
    rotate_left
    ·show Act.put _ (some 21) _ = _
     simp only [Act.put, List.setIfInBounds_toArray, List.set_cons_zero, List.set_cons_succ, i64_w, i32_w]
     rfl
    refine one_ (i := 7) (N := some 25) (bl 24 255) rfl rfl (one_of HT_.out (by kernel_rfl)) (by decide) (fun K hK => ?_)
    refine goes_ Try.func16 (by kernel_rfl) rfl #[.agg #[.string a0_0, .string a0_1, .int .i64 a0_2], .int .i64 a1, .slice A2 l2.length c2] (by rfl) rfl rfl (by (try simp only [List.map_toArray, List.map_cons, List.map_nil]); first | done | rfl | (simp only [List.length_drop, List.length_take]; rfl)) ?_
    with_reducible refine (erasureref35_Publish.calls k a0_0 a0_1 a0_2 a1 _ _ l2 t290 _ ?side1 ?side2 A8.out).mono ?_
    (case side1 => repeat (first | exact (Kd.C_below HR2.out HB.out) | (with_reducible refine Kd.C_alloc ?_ _) | (with_reducible refine Kd.C_drewN ?_ _) | (with_reducible refine Kd.C_drew ?_)))
    (case side2 => exact HC2.out)
    rintro e w20 ⟨v291, rfl, ho0, hb⟩
    refine ⟨_, rfl, ?_⟩
    have n0_ := Aside0.mk (Kd.V_elder' (by (with_reducible repeat (first | apply Kd.V_alloc | apply Kd.V_drewN | apply Kd.V_drew)); exact HO285.out) (Kd.S_base ho0) hb)
    have n1_ := Aside0.mk (Kd.V_elder' (by (with_reducible repeat (first | apply Kd.V_alloc | apply Kd.V_drewN | apply Kd.V_drew)); exact HO289.out) (Kd.S_base ho0) hb)
    have n2_ := Aside0.mk (Kd.S_lower ho0 (below_size (by repeat (first | (with_reducible first | exact HB.out | apply below_alloc | apply pw_below_drewN | apply below_drew1 | refine below_set ?_ GE280.out) | exact HB.out))))
    have n3_ := Aside0.mk (blk_below (g := gb280) (o := .cells #[.string a0_0, .string a0_1, .int .i64 a0_2] 23 (0, 0)) (by (with_reducible repeat (first | refine blk_drewN ?_ _ | refine blk_drew ?_ | refine blk_alloc ?_ _)); exact BK280.out) hb)
    have n4_ := Aside0.mk (below_step (by repeat (first | (with_reducible first | exact HB.out | apply below_alloc | apply pw_below_drewN | apply below_drew1 | refine below_set ?_ GE280.out) | exact HB.out)) hb)
    clear HO285
    clear HO289
    clear BK280
    clear HB
    have HO285 := n0_
    have HO289 := n1_
    have HO292 := n2_
    have BK280 := n3_
    have HB := n4_
    clear n0_ n1_ n2_ n3_ n4_
    (try clear hb)
    (try clear hb2)
    (try clear hk)
    (try clear hi)
    (try clear ho0)
    obtain ⟨Ao21, co21, eo21⟩ := Kd.V_slice HO289.out
    (first | subst eo21 | (injection eo21 with f1_ f2_ f3_; have f4_ := f1_.symm; have f5_ := f3_.symm; clear f1_ f2_ f3_; subst f4_; subst f5_))
    obtain ⟨Ao22, co22, eo22⟩ := Kd.S_slice HO292.out
    (first | subst eo22 | (injection eo22 with f1_ f2_ f3_; have f4_ := f1_.symm; have f5_ := f3_.symm; clear f1_ f2_ f3_; subst f4_; subst f5_))
    refine hK.out _ _ ⟨(blk_cell BK280.out 0).trans rfl, (blk_cell BK280.out 1).trans rfl, (blk_cell BK280.out 2).trans rfl⟩ (fun hHeld => ?_)
    clear hK K
    refine norm_ (a' := ?_) ?_ ?_
    rotate_left
    ·show Act.put _ (some 25) _ = _
     simp only [Act.put, List.setIfInBounds_toArray, List.set_cons_zero, List.set_cons_succ, i64_w, i32_w]
     rfl
    refine one_ (i := 8) (N := some 26) (bl 24 511) rfl rfl (one_of HT_.out (by kernel_rfl)) (by decide) (fun K hK => ?_)
    refine goes_ Try.func14 (by kernel_rfl) rfl #[.slice Ao21 t287.length co21, .slice Ao22 t290.length co22] (by rfl) rfl rfl (by (try simp only [List.map_toArray, List.map_cons, List.map_nil]); first | done | rfl | (simp only [List.length_drop, List.length_take]; rfl)) ?_
    with_reducible refine (erasureref35_Same.calls k _ _ t287 _ _ t290 true _ ?side1 ?side2 ?side3 ?side4 A9.out).mono ?_
    (case side1 => repeat (first | exact (Kd.V_reads' HO289.out).2.2 | (with_reducible refine Kd.C_alloc ?_ _) | (with_reducible refine Kd.C_drewN ?_ _) | (with_reducible refine Kd.C_drew ?_)))
    (case side2 => exact (Kd.V_reads' HO289.out).2.1)
    (case side3 => repeat (first | exact (Kd.S_reads' HO292.out).2.2 | (with_reducible refine Kd.C_alloc ?_ _) | (with_reducible refine Kd.C_drewN ?_ _) | (with_reducible refine Kd.C_drew ?_)))
    (case side4 => exact (Kd.S_reads' HO292.out).2.1)
    rintro e w' ⟨rfl, ⟨nd, rfl⟩⟩
    refine ⟨_, rfl, ?_⟩
    obtain ⟨Ao23, co23, eo23⟩ := Kd.V_slice HO285.out
    (first | subst eo23 | (injection eo23 with f1_ f2_ f3_; have f4_ := f1_.symm; have f5_ := f3_.symm; clear f1_ f2_ f3_; subst f4_; subst f5_))
    refine hK.out _ _ ⟨(blk_cell BK280.out 0).trans rfl, (blk_cell BK280.out 1).trans rfl, (blk_cell BK280.out 2).trans rfl⟩ (fun hHeld => ?_)
    clear hK K
    refine norm_ (a' := ?_) ?_ ?_
    rotate_left
    ·show Act.put _ (some 26) _ = _
     simp only [Act.put, List.setIfInBounds_toArray, List.set_cons_zero, List.set_cons_succ, i64_w, i32_w]
     rfl
    refine pu (i := 9) (N := some 27) (bl 24 1023) (any_of HT_.out (by kernel_rfl)) ?_
    refine pu (i := 11) (N := some 29) (bl 24 3071) (any_of HT_.out (by kernel_rfl)) ?_
    refine pu (i := 12) (N := some 30) (bl 24 7167) (any_of HT_.out (by kernel_rfl)) ?_
    refine pu (i := 15) (N := some 33) (bl 24 39935) (any_of HT_.out (by kernel_rfl)) ?_
    refine pu (i := 16) (N := some 34) (bl 24 105471) (any_of HT_.out (by kernel_rfl)) ?_
    refine ta (i := 10) (N := some 28) (bl 24 106495) (take_ofW HT_.out HW_.out (by kernel_rfl)) hHeld ?_
    refine ta (i := 14) (N := some 32) (bl 24 122879) (take_ofW HT_.out HW_.out (by kernel_rfl)) hHeld ?_
    refine one_ (i := 13) (N := some 31) (bl 24 131071) rfl rfl (one_of HT_.out (by kernel_rfl)) (by decide) (fun K hK => ?_)
    refine goes_ Try.func15 (by kernel_rfl) rfl #[.agg #[.string a0_0, .string a0_1, .int .i64 a0_2], .int .i64 a1, .slice Ao23 t283.length co23] (by rfl) rfl rfl (by (try simp only [List.map_toArray, List.map_cons, List.map_nil]); first | done | rfl | (simp only [List.length_drop, List.length_take]; rfl)) ?_
    with_reducible refine (release_Publish.calls k a0_0 a0_1 a0_2 a1 _ _ t283 t294 _ ?side1 ?side2 A11.out).mono ?_
    (case side1 => repeat (first | exact (Kd.V_reads' HO285.out).2.2 | (with_reducible refine Kd.C_alloc ?_ _) | (with_reducible refine Kd.C_drewN ?_ _) | (with_reducible refine Kd.C_drew ?_)))
    (case side2 => exact (Kd.V_reads' HO285.out).2.1)
    rintro e w24 ⟨v295, rfl, ho0, hb⟩
    refine ⟨_, rfl, ?_⟩
    have n0_ := Aside0.mk (Kd.V_below (by (with_reducible repeat (first | apply Kd.V_alloc | apply Kd.V_drewN | apply Kd.V_drew)); exact HO285.out) hb)
    have n1_ := Aside0.mk (Kd.V_below (by (with_reducible repeat (first | apply Kd.V_alloc | apply Kd.V_drewN | apply Kd.V_drew)); exact HO289.out) hb)
    have n2_ := Aside0.mk (Kd.S_below (by (with_reducible repeat (first | apply Kd.S_alloc | apply Kd.S_drewN | apply Kd.S_drew)); exact HO292.out) hb)
    have n3_ := Aside0.mk (Kd.V_lower (Kd.V_mono (ok' := fun k_ => some k_ ≠ (.slice Ao22 t290.length co22 : Value).ownBlock ∧ k_ ≠ gb280) ho0 (fun k_ hk_ => ⟨(Kd.fresh' (Kd.S_lt (by (with_reducible repeat (first | apply Kd.S_alloc | apply Kd.S_drewN | apply Kd.S_drew)); exact HO292.out)) k_ hk_), (Kd.freshB (g := gb280) (o := .cells #[.string a0_0, .string a0_1, .int .i64 a0_2] 23 (0, 0)) (by (with_reducible repeat (first | refine blk_drewN ?_ _ | refine blk_drew ?_ | refine blk_alloc ?_ _)); exact BK280.out) k_ hk_)⟩)) (below_size (by repeat (first | (with_reducible first | exact HB.out | apply below_alloc | apply pw_below_drewN | apply below_drew1 | refine below_set ?_ GE280.out) | exact HB.out))))
    have n4_ := Aside0.mk (blk_below (g := gb280) (o := .cells #[.string a0_0, .string a0_1, .int .i64 a0_2] 23 (0, 0)) (by (with_reducible repeat (first | refine blk_drewN ?_ _ | refine blk_drew ?_ | refine blk_alloc ?_ _)); exact BK280.out) hb)
    have n5_ := Aside0.mk (below_step (by repeat (first | (with_reducible first | exact HB.out | apply below_alloc | apply pw_below_drewN | apply below_drew1 | refine below_set ?_ GE280.out) | exact HB.out)) hb)
    clear HO285
    clear HO289
    clear HO292
    clear BK280
    clear HB
    have HO285 := n0_
    have HO289 := n1_
    have HO292 := n2_
    have HO296 := n3_
    have BK280 := n4_
    have HB := n5_
    clear n0_ n1_ n2_ n3_ n4_ n5_
    (try clear hb)
    (try clear hb2)
    (try clear hk)
    (try clear hi)
    (try clear ho0)
    refine hK.out _ _ ⟨(blk_cell BK280.out 0).trans rfl, (blk_cell BK280.out 1).trans rfl, (blk_cell BK280.out 2).trans rfl⟩ (fun hHeld => ?_)
    clear hK K
    refine norm_ (a' := ?_) ?_ ?_
    rotate_left
    ·show Act.put _ (some 31) _ = _
     simp only [Act.put, List.setIfInBounds_toArray, List.set_cons_zero, List.set_cons_succ, i64_w, i32_w]
     rfl
    refine one_ (i := 17) (N := some 35) (bl 24 262143) rfl rfl (one_of HT_.out (by kernel_rfl)) (by decide) (fun K hK => ?_)
    refine goes_ Try.func16 (by kernel_rfl) rfl #[.agg #[.string a0_0, .string a0_1, .int .i64 a0_2], .int .i64 a1, .slice Ao23 t283.length co23] (by rfl) rfl rfl (by (try simp only [List.map_toArray, List.map_cons, List.map_nil]); first | done | rfl | (simp only [List.length_drop, List.length_take]; rfl)) ?_
    with_reducible refine (erasureref35_Publish.calls k a0_0 a0_1 a0_2 a1 _ _ t283 t297 _ ?side1 ?side2 A12.out).mono ?_
    (case side1 => repeat (first | exact (Kd.V_reads' HO285.out).2.2 | (with_reducible refine Kd.C_alloc ?_ _) | (with_reducible refine Kd.C_drewN ?_ _) | (with_reducible refine Kd.C_drew ?_)))
    (case side2 => exact (Kd.V_reads' HO285.out).2.1)
    rintro e w25 ⟨v298, rfl, ho0, hb⟩
    refine ⟨_, rfl, ?_⟩
    have n0_ := Aside0.mk (Kd.V_elder' (by (with_reducible repeat (first | apply Kd.V_alloc | apply Kd.V_drewN | apply Kd.V_drew)); exact HO285.out) (Kd.S_base ho0) hb)
    have n1_ := Aside0.mk (Kd.V_elder' (by (with_reducible repeat (first | apply Kd.V_alloc | apply Kd.V_drewN | apply Kd.V_drew)); exact HO289.out) (Kd.S_base ho0) hb)
    have n2_ := Aside0.mk (Kd.S_elder' (by (with_reducible repeat (first | apply Kd.S_alloc | apply Kd.S_drewN | apply Kd.S_drew)); exact HO292.out) (Kd.S_base ho0) hb)
    have n3_ := Aside0.mk (Kd.V_elder' (by (with_reducible repeat (first | apply Kd.V_alloc | apply Kd.V_drewN | apply Kd.V_drew)); exact HO296.out) (Kd.S_base ho0) hb)
    have n4_ := Aside0.mk (Kd.S_lower (Kd.S_new' ho0 (Kd.S_lt (by (with_reducible repeat (first | apply Kd.S_alloc | apply Kd.S_drewN | apply Kd.S_drew)); exact HO292.out))) (below_size (by repeat (first | (with_reducible first | exact HB.out | apply below_alloc | apply pw_below_drewN | apply below_drew1 | refine below_set ?_ GE280.out) | exact HB.out))))
    have n5_ := Aside0.mk (blk_below (g := gb280) (o := .cells #[.string a0_0, .string a0_1, .int .i64 a0_2] 23 (0, 0)) (by (with_reducible repeat (first | refine blk_drewN ?_ _ | refine blk_drew ?_ | refine blk_alloc ?_ _)); exact BK280.out) hb)
    have n6_ := Aside0.mk (below_step (by repeat (first | (with_reducible first | exact HB.out | apply below_alloc | apply pw_below_drewN | apply below_drew1 | refine below_set ?_ GE280.out) | exact HB.out)) hb)
    clear HO285
    clear HO289
    clear HO292
    clear HO296
    clear BK280
    clear HB
    have HO285 := n0_
    have HO289 := n1_
    have HO292 := n2_
    have HO296 := n3_
    have HO299 := n4_
    have BK280 := n5_
    have HB := n6_
    clear n0_ n1_ n2_ n3_ n4_ n5_ n6_
    (try clear hb)
    (try clear hb2)
    (try clear hk)
    (try clear hi)
    (try clear ho0)
    obtain ⟨Ao26, co26, eo26⟩ := Kd.V_slice HO296.out
    (first | subst eo26 | (injection eo26 with f1_ f2_ f3_; have f4_ := f1_.symm; have f5_ := f3_.symm; clear f1_ f2_ f3_; subst f4_; subst f5_))
    obtain ⟨Ao27, co27, eo27⟩ := Kd.S_slice HO299.out
    (first | subst eo27 | (injection eo27 with f1_ f2_ f3_; have f4_ := f1_.symm; have f5_ := f3_.symm; clear f1_ f2_ f3_; subst f4_; subst f5_))
    refine hK.out _ _ ⟨(blk_cell BK280.out 0).trans rfl, (blk_cell BK280.out 1).trans rfl, (blk_cell BK280.out 2).trans rfl⟩ (fun hHeld => ?_)
    clear hK K
    refine norm_ (a' := ?_) ?_ ?_
    rotate_left
    ·show Act.put _ (some 35) _ = _
     simp only [Act.put, List.setIfInBounds_toArray, List.set_cons_zero, List.set_cons_succ, i64_w, i32_w]
     rfl
    refine one_ (i := 18) (N := some 36) (bl 24 524287) rfl rfl (one_of HT_.out (by kernel_rfl)) (by decide) (fun K hK => ?_)
    refine goes_ Try.func14 (by kernel_rfl) rfl #[.slice Ao26 t294.length co26, .slice Ao27 t297.length co27] (by rfl) rfl rfl (by (try simp only [List.map_toArray, List.map_cons, List.map_nil]); first | done | rfl | (simp only [List.length_drop, List.length_take]; rfl)) ?_
    with_reducible refine (erasureref35_Same.calls k _ _ t294 _ _ t297 true _ ?side1 ?side2 ?side3 ?side4 A13.out).mono ?_
    (case side1 => repeat (first | exact (Kd.V_reads' HO296.out).2.2 | (with_reducible refine Kd.C_alloc ?_ _) | (with_reducible refine Kd.C_drewN ?_ _) | (with_reducible refine Kd.C_drew ?_)))
    (case side2 => exact (Kd.V_reads' HO296.out).2.1)
    (case side3 => repeat (first | exact (Kd.S_reads' HO299.out).2.2 | (with_reducible refine Kd.C_alloc ?_ _) | (with_reducible refine Kd.C_drewN ?_ _) | (with_reducible refine Kd.C_drew ?_)))
    (case side4 => exact (Kd.S_reads' HO299.out).2.1)
    rintro e w' ⟨rfl, ⟨nd, rfl⟩⟩
    refine ⟨_, rfl, ?_⟩
    refine hK.out _ _ ⟨(blk_cell BK280.out 0).trans rfl, (blk_cell BK280.out 1).trans rfl, (blk_cell BK280.out 2).trans rfl⟩ (fun hHeld => ?_)
    clear hK K
    refine norm_ (a' := ?_) ?_ ?_
    rotate_left
    ·show Act.put _ (some 36) _ = _
     simp only [Act.put, List.setIfInBounds_toArray, List.set_cons_zero, List.set_cons_succ, i64_w, i32_w]
     rfl
    refine pu (i := 19) (N := some 37) (bl 24 1048575) (any_of HT_.out (by kernel_rfl)) ?_
    refine pu (i := 20) (N := some 38) (bl 24 2097151) (any_of HT_.out (by kernel_rfl)) ?_
    refine one_ (i := 21) (N := some 39) (bl 24 4194303) rfl rfl (one_of HT_.out (by kernel_rfl)) (by decide) (fun K hK => ?_)
    refine goes_ Try.func12 (by kernel_rfl) rfl #[] (by rfl) rfl rfl (by (try simp only [List.map_toArray, List.map_cons, List.map_nil]); first | done | rfl | (simp only [List.length_drop, List.length_take]; rfl)) ?_
    with_reducible refine (erasurelaw35_awake.calls k  t301 _ A15.out).mono ?_
    rintro e w28 ⟨rfl, hb⟩
    refine ⟨_, rfl, ?_⟩
    have n0_ := Aside0.mk (Kd.V_below (by (with_reducible repeat (first | apply Kd.V_alloc | apply Kd.V_drewN | apply Kd.V_drew)); exact HO285.out) hb)
    have n1_ := Aside0.mk (Kd.V_below (by (with_reducible repeat (first | apply Kd.V_alloc | apply Kd.V_drewN | apply Kd.V_drew)); exact HO289.out) hb)
    have n2_ := Aside0.mk (Kd.S_below (by (with_reducible repeat (first | apply Kd.S_alloc | apply Kd.S_drewN | apply Kd.S_drew)); exact HO292.out) hb)
    have n3_ := Aside0.mk (Kd.V_below (by (with_reducible repeat (first | apply Kd.V_alloc | apply Kd.V_drewN | apply Kd.V_drew)); exact HO296.out) hb)
    have n4_ := Aside0.mk (Kd.S_below (by (with_reducible repeat (first | apply Kd.S_alloc | apply Kd.S_drewN | apply Kd.S_drew)); exact HO299.out) hb)
    have n5_ := Aside0.mk (blk_below (g := gb280) (o := .cells #[.string a0_0, .string a0_1, .int .i64 a0_2] 23 (0, 0)) (by (with_reducible repeat (first | refine blk_drewN ?_ _ | refine blk_drew ?_ | refine blk_alloc ?_ _)); exact BK280.out) hb)
    have n6_ := Aside0.mk (below_step (by repeat (first | (with_reducible first | exact HB.out | apply below_alloc | apply pw_below_drewN | apply below_drew1 | refine below_set ?_ GE280.out) | exact HB.out)) hb)
    clear HO285
    clear HO289
    clear HO292
    clear HO296
    clear HO299
    clear BK280
    clear HB
    have HO285 := n0_
    have HO289 := n1_
    have HO292 := n2_
    have HO296 := n3_
    have HO299 := n4_
    have BK280 := n5_
    have HB := n6_
    clear n0_ n1_ n2_ n3_ n4_ n5_ n6_
    (try clear hb)
    (try clear hb2)
    (try clear hk)
    (try clear hi)
    refine hK.out _ _ ⟨(blk_cell BK280.out 0).trans rfl, (blk_cell BK280.out 1).trans rfl, (blk_cell BK280.out 2).trans rfl⟩ (fun hHeld => ?_)
    clear hK K
    refine norm_ (a' := ?_) ?_ ?_
    rotate_left
    ·show Act.put _ (some 39) _ = _
     simp only [Act.put, List.setIfInBounds_toArray, List.set_cons_zero, List.set_cons_succ, i64_w, i32_w]
     rfl
    refine pu (i := 22) (N := some 40) (bl 24 8388607) (any_of HT_.out (by kernel_rfl)) ?_
    refine pu (i := 23) (N := some 6) (bl 24 16777215) (any_of HT_.out (by kernel_rfl)) ?_
    refine done_ (done_of HT_.out (by kernel_rfl)) ?_
    try go_wp2
    go_ret
    exact ⟨by first | rfl | (simp [errW_none, errW_some] <;> rfl) | (simp [*, errW_none, errW_some] <;> rfl), by repeat (first | (with_reducible first | exact HB.out | apply below_alloc | apply pw_below_drewN | apply below_drew1 | refine below_set ?_ GE280.out) | exact HB.out)⟩
   ·replace c14 := Bool.eq_false_iff.mpr c14
    subst c14
    have H1 : (some false) = some r := by rw [if_neg (show ¬ (false = true) by decide)] at H; exact H
    clear H
    have H := H1
    clear H1
    obtain rfl := Option.some.inj H
    go_enter Try.func3, Try.ntmps3
    try go_wp2_with (first | ((with_reducible refine gate_dst (N := 3) rfl ?_); refine box_event ?hg (N := 3) ?hd (cs := #[.string a0_0, .string a0_1, .int .i64 a0_2]) (t := 23) ?hr ?_; (case hd => rfl); (case hg => rfl); (case hr => first | (go_simp; done) | (go_simp; rfl)); intro gb280 hg w29 hbox hb; have n0_ := Aside0.mk (below_step (by repeat (first | (with_reducible first | exact HB.out | apply below_alloc | apply pw_below_drewN | apply below_drew1) | exact HB.out)) hb); have n1_ := Aside0.mk (hbox); have n2_ := Aside0.mk ((by rw [hg]; exact (below_size (by repeat (first | (with_reducible first | exact HB.out | apply below_alloc | apply pw_below_drewN | apply below_drew1) | exact HB.out))) : w.heap.size ≤ gb280)); have n3_ := Aside0.mk ((by rw [hg]; exact (below_size (by repeat (first | (with_reducible first | exact HB.out | apply below_alloc | apply pw_below_drewN | apply below_drew1) | exact HB.out))) : w.heap.size ≤ gb280)); clear HB; have HB := n0_; have BK280 := n1_; have GW280 := n2_; have GE280 := n3_; clear n0_ n1_ n2_ n3_; clear hb hbox hg) | ((with_reducible refine gate_callee (f := 11) rfl ?_); refine goesL_ (some 10) rfl rfl Try.func11 (by kernel_rfl) rfl #[.slice A2 l2.length c2] rfl (by (try simp only [List.map_toArray, List.map_cons, List.map_nil]); first | done | rfl | (simp only [List.length_drop, List.length_take]; rfl)) ?_; (with_reducible refine (erasurelaw35_short.calls k _ _ l2 true _ ?side1 ?side2 A4.out).mono ?_); (case side1 => repeat (first | exact (Kd.C_below HR2.out HB.out) | (with_reducible refine Kd.C_alloc ?_ _) | (with_reducible refine Kd.C_drewN ?_ _) | (with_reducible refine Kd.C_drew ?_))); (case side2 => exact HC2.out); rintro e w' ⟨rfl, ⟨nd, rfl⟩⟩; refine ⟨_, rfl, ?_⟩) | ((with_reducible refine gate_callee (f := 13) rfl ?_); refine goesL_ (some 15) rfl rfl Try.func13 (by kernel_rfl) rfl #[.slice A2 l2.length c2] rfl (by (try simp only [List.map_toArray, List.map_cons, List.map_nil]); first | done | rfl | (simp only [List.length_drop, List.length_take]; rfl)) ?_; (with_reducible refine (erasureref06_Normalize.calls k (fun k_ => k_ < w.heap.size) _ _ l2 t283 t286 _ ?side1 A6.out).mono ?_); (case side1 => exact Kd.V_mk HC2.out (Kd.F_below (Kd.C_F k41_heap HR2.out) (by repeat (first | (with_reducible first | exact HB.out | apply below_alloc | apply pw_below_drewN | apply below_drew1 | refine below_set ?_ GE280.out) | exact HB.out)))); rintro e w30 ⟨v284, rfl, ho0, hb⟩; refine ⟨_, rfl, ?_⟩; have n0_ := Aside0.mk (Kd.V_lower (Kd.V_mono (ok' := fun k_ => k_ ≠ gb280) ho0 (fun k_ hk_ => Or.elim hk_ (fun hs_ => fun e_ => Nat.not_le.2 hs_ (by rw [e_]; exact GW280.out)) (fun hn_ => (Kd.freshB (g := gb280) (o := .cells #[.string a0_0, .string a0_1, .int .i64 a0_2] 23 (0, 0)) (by (with_reducible repeat (first | refine blk_drewN ?_ _ | refine blk_drew ?_ | refine blk_alloc ?_ _)); exact BK280.out) k_ hn_)))) (below_size (by repeat (first | (with_reducible first | exact HB.out | apply below_alloc | apply pw_below_drewN | apply below_drew1 | refine below_set ?_ GE280.out) | exact HB.out)))); have n1_ := Aside0.mk (blk_below (g := gb280) (o := .cells #[.string a0_0, .string a0_1, .int .i64 a0_2] 23 (0, 0)) (by (with_reducible repeat (first | refine blk_drewN ?_ _ | refine blk_drew ?_ | refine blk_alloc ?_ _)); exact BK280.out) hb); have n2_ := Aside0.mk (below_step (by repeat (first | (with_reducible first | exact HB.out | apply below_alloc | apply pw_below_drewN | apply below_drew1 | refine below_set ?_ GE280.out) | exact HB.out)) hb); clear BK280; clear HB; have HO285 := n0_; have BK280 := n1_; have HB := n2_; clear n0_ n1_ n2_; (try clear hb); (try clear hb2); (try clear hk); (try clear hi); (try clear ho0)))
    have n0_ := Aside0.mk (Kd.V_drew HO285.out)
    have n1_ := Aside0.mk (blk_drew BK280.out)
    have n2_ := Aside0.mk (below_drew1 HB.out)
    clear HO285
    clear BK280
    clear HB
    have HO285 := n0_
    have BK280 := n1_
    have HB := n2_
    clear n0_ n1_ n2_
    refine start_ (n := 24) (S := fun w' => w'.cell? ⟨gb280, 0, none⟩ = some (.string a0_0) ∧ w'.cell? ⟨gb280, 1, none⟩ = some (.string a0_1) ∧ w'.cell? ⟨gb280, 2, none⟩ = some (.int .i64 a0_2)) (ds := []) #[false, false, false, false, false, false, false, false, false, false, false, false, false, false, false, false, false, false, false, false, false, false, false, false] (by kernel_rfl) rfl rfl ⟨(blk_cell BK280.out 0).trans rfl, (blk_cell BK280.out 1).trans rfl, (blk_cell BK280.out 2).trans rfl⟩ (fun hHeld => ?_); refine with_tabW erasurelaw35_ReleasePublishes.tab4 erasurelaw35_ReleasePublishes.bits4 (fun HT_ HW_ => ?_)
    generalize w30.drew = w31 at HO285 BK280 HB hHeld ⊢
    refine pu (i := 1) (N := some 19) (bl 24 2) (any_of HT_.out (by kernel_rfl)) ?_
    refine pu (i := 2) (N := some 20) (bl 24 6) (any_of HT_.out (by kernel_rfl)) ?_
    refine pu (i := 5) (N := some 23) (bl 24 38) (any_of HT_.out (by kernel_rfl)) ?_
    refine pu (i := 6) (N := some 24) (bl 24 102) (any_of HT_.out (by kernel_rfl)) ?_
    refine ta (i := 0) (N := some 18) (bl 24 103) (take_ofW HT_.out HW_.out (by kernel_rfl)) hHeld ?_
    refine ta (i := 4) (N := some 22) (bl 24 119) (take_ofW HT_.out HW_.out (by kernel_rfl)) hHeld ?_
    refine one_ (i := 3) (N := some 21) (bl 24 127) rfl rfl (one_of HT_.out (by kernel_rfl)) (by decide) (fun K hK => ?_)
    refine goes_ Try.func15 (by kernel_rfl) rfl #[.agg #[.string a0_0, .string a0_1, .int .i64 a0_2], .int .i64 a1, .slice A2 l2.length c2] (by rfl) rfl rfl (by (try simp only [List.map_toArray, List.map_cons, List.map_nil]); first | done | rfl | (simp only [List.length_drop, List.length_take]; rfl)) ?_
    with_reducible refine (release_Publish.calls k a0_0 a0_1 a0_2 a1 _ _ l2 t287 _ ?side1 ?side2 A7.out).mono ?_
    (case side1 => repeat (first | exact (Kd.C_below HR2.out HB.out) | (with_reducible refine Kd.C_alloc ?_ _) | (with_reducible refine Kd.C_drewN ?_ _) | (with_reducible refine Kd.C_drew ?_)))
    (case side2 => exact HC2.out)
    rintro e w32 ⟨v288, rfl, ho0, hb⟩
    refine ⟨_, rfl, ?_⟩
    have n0_ := Aside0.mk (Kd.V_below (by (with_reducible repeat (first | apply Kd.V_alloc | apply Kd.V_drewN | apply Kd.V_drew)); exact HO285.out) hb)
    have n1_ := Aside0.mk (Kd.V_lower (Kd.V_mono (ok' := fun k_ => k_ ≠ gb280) ho0 (fun k_ hk_ => (Kd.freshB (g := gb280) (o := .cells #[.string a0_0, .string a0_1, .int .i64 a0_2] 23 (0, 0)) (by (with_reducible repeat (first | refine blk_drewN ?_ _ | refine blk_drew ?_ | refine blk_alloc ?_ _)); exact BK280.out) k_ hk_))) (below_size (by repeat (first | (with_reducible first | exact HB.out | apply below_alloc | apply pw_below_drewN | apply below_drew1 | refine below_set ?_ GE280.out) | exact HB.out))))
    have n2_ := Aside0.mk (blk_below (g := gb280) (o := .cells #[.string a0_0, .string a0_1, .int .i64 a0_2] 23 (0, 0)) (by (with_reducible repeat (first | refine blk_drewN ?_ _ | refine blk_drew ?_ | refine blk_alloc ?_ _)); exact BK280.out) hb)
    have n3_ := Aside0.mk (below_step (by repeat (first | (with_reducible first | exact HB.out | apply below_alloc | apply pw_below_drewN | apply below_drew1 | refine below_set ?_ GE280.out) | exact HB.out)) hb)
    clear HO285
    clear BK280
    clear HB
    have HO285 := n0_
    have HO289 := n1_
    have BK280 := n2_
    have HB := n3_
    clear n0_ n1_ n2_ n3_
    (try clear hb)
    (try clear hb2)
    (try clear hk)
    (try clear hi)
    (try clear ho0)
    refine hK.out _ _ ⟨(blk_cell BK280.out 0).trans rfl, (blk_cell BK280.out 1).trans rfl, (blk_cell BK280.out 2).trans rfl⟩ (fun hHeld => ?_)
    clear hK K
    refine norm_ (a' := ?_) ?_ ?_
    rotate_left
    ·show Act.put _ (some 21) _ = _
     simp only [Act.put, List.setIfInBounds_toArray, List.set_cons_zero, List.set_cons_succ, i64_w, i32_w]
     rfl
    refine one_ (i := 7) (N := some 25) (bl 24 255) rfl rfl (one_of HT_.out (by kernel_rfl)) (by decide) (fun K hK => ?_)
    refine goes_ Try.func16 (by kernel_rfl) rfl #[.agg #[.string a0_0, .string a0_1, .int .i64 a0_2], .int .i64 a1, .slice A2 l2.length c2] (by rfl) rfl rfl (by (try simp only [List.map_toArray, List.map_cons, List.map_nil]); first | done | rfl | (simp only [List.length_drop, List.length_take]; rfl)) ?_
    with_reducible refine (erasureref35_Publish.calls k a0_0 a0_1 a0_2 a1 _ _ l2 t290 _ ?side1 ?side2 A8.out).mono ?_
    (case side1 => repeat (first | exact (Kd.C_below HR2.out HB.out) | (with_reducible refine Kd.C_alloc ?_ _) | (with_reducible refine Kd.C_drewN ?_ _) | (with_reducible refine Kd.C_drew ?_)))
    (case side2 => exact HC2.out)
    rintro e w33 ⟨v291, rfl, ho0, hb⟩
    refine ⟨_, rfl, ?_⟩
    have n0_ := Aside0.mk (Kd.V_elder' (by (with_reducible repeat (first | apply Kd.V_alloc | apply Kd.V_drewN | apply Kd.V_drew)); exact HO285.out) (Kd.S_base ho0) hb)
    have n1_ := Aside0.mk (Kd.V_elder' (by (with_reducible repeat (first | apply Kd.V_alloc | apply Kd.V_drewN | apply Kd.V_drew)); exact HO289.out) (Kd.S_base ho0) hb)
    have n2_ := Aside0.mk (Kd.S_lower ho0 (below_size (by repeat (first | (with_reducible first | exact HB.out | apply below_alloc | apply pw_below_drewN | apply below_drew1 | refine below_set ?_ GE280.out) | exact HB.out))))
    have n3_ := Aside0.mk (blk_below (g := gb280) (o := .cells #[.string a0_0, .string a0_1, .int .i64 a0_2] 23 (0, 0)) (by (with_reducible repeat (first | refine blk_drewN ?_ _ | refine blk_drew ?_ | refine blk_alloc ?_ _)); exact BK280.out) hb)
    have n4_ := Aside0.mk (below_step (by repeat (first | (with_reducible first | exact HB.out | apply below_alloc | apply pw_below_drewN | apply below_drew1 | refine below_set ?_ GE280.out) | exact HB.out)) hb)
    clear HO285
    clear HO289
    clear BK280
    clear HB
    have HO285 := n0_
    have HO289 := n1_
    have HO292 := n2_
    have BK280 := n3_
    have HB := n4_
    clear n0_ n1_ n2_ n3_ n4_
    (try clear hb)
    (try clear hb2)
    (try clear hk)
    (try clear hi)
    (try clear ho0)
    obtain ⟨Ao34, co34, eo34⟩ := Kd.V_slice HO289.out
    (first | subst eo34 | (injection eo34 with f1_ f2_ f3_; have f4_ := f1_.symm; have f5_ := f3_.symm; clear f1_ f2_ f3_; subst f4_; subst f5_))
    obtain ⟨Ao35, co35, eo35⟩ := Kd.S_slice HO292.out
    (first | subst eo35 | (injection eo35 with f1_ f2_ f3_; have f4_ := f1_.symm; have f5_ := f3_.symm; clear f1_ f2_ f3_; subst f4_; subst f5_))
    refine hK.out _ _ ⟨(blk_cell BK280.out 0).trans rfl, (blk_cell BK280.out 1).trans rfl, (blk_cell BK280.out 2).trans rfl⟩ (fun hHeld => ?_)
    clear hK K
    refine norm_ (a' := ?_) ?_ ?_
    rotate_left
    ·show Act.put _ (some 25) _ = _
     simp only [Act.put, List.setIfInBounds_toArray, List.set_cons_zero, List.set_cons_succ, i64_w, i32_w]
     rfl
    refine one_ (i := 8) (N := some 26) (bl 24 511) rfl rfl (one_of HT_.out (by kernel_rfl)) (by decide) (fun K hK => ?_)
    refine goes_ Try.func14 (by kernel_rfl) rfl #[.slice Ao34 t287.length co34, .slice Ao35 t290.length co35] (by rfl) rfl rfl (by (try simp only [List.map_toArray, List.map_cons, List.map_nil]); first | done | rfl | (simp only [List.length_drop, List.length_take]; rfl)) ?_
    with_reducible refine (erasureref35_Same.calls k _ _ t287 _ _ t290 true _ ?side1 ?side2 ?side3 ?side4 A9.out).mono ?_
    (case side1 => repeat (first | exact (Kd.V_reads' HO289.out).2.2 | (with_reducible refine Kd.C_alloc ?_ _) | (with_reducible refine Kd.C_drewN ?_ _) | (with_reducible refine Kd.C_drew ?_)))
    (case side2 => exact (Kd.V_reads' HO289.out).2.1)
    (case side3 => repeat (first | exact (Kd.S_reads' HO292.out).2.2 | (with_reducible refine Kd.C_alloc ?_ _) | (with_reducible refine Kd.C_drewN ?_ _) | (with_reducible refine Kd.C_drew ?_)))
    (case side4 => exact (Kd.S_reads' HO292.out).2.1)
    rintro e w' ⟨rfl, ⟨nd, rfl⟩⟩
    refine ⟨_, rfl, ?_⟩
    obtain ⟨Ao36, co36, eo36⟩ := Kd.V_slice HO285.out
    (first | subst eo36 | (injection eo36 with f1_ f2_ f3_; have f4_ := f1_.symm; have f5_ := f3_.symm; clear f1_ f2_ f3_; subst f4_; subst f5_))
    refine hK.out _ _ ⟨(blk_cell BK280.out 0).trans rfl, (blk_cell BK280.out 1).trans rfl, (blk_cell BK280.out 2).trans rfl⟩ (fun hHeld => ?_)
    clear hK K
    refine norm_ (a' := ?_) ?_ ?_
    rotate_left
    ·show Act.put _ (some 26) _ = _
     simp only [Act.put, List.setIfInBounds_toArray, List.set_cons_zero, List.set_cons_succ, i64_w, i32_w]
     rfl
    refine pu (i := 9) (N := some 27) (bl 24 1023) (any_of HT_.out (by kernel_rfl)) ?_
    refine pu (i := 11) (N := some 29) (bl 24 3071) (any_of HT_.out (by kernel_rfl)) ?_
    refine pu (i := 12) (N := some 30) (bl 24 7167) (any_of HT_.out (by kernel_rfl)) ?_
    refine pu (i := 15) (N := some 33) (bl 24 39935) (any_of HT_.out (by kernel_rfl)) ?_
    refine pu (i := 16) (N := some 34) (bl 24 105471) (any_of HT_.out (by kernel_rfl)) ?_
    refine ta (i := 10) (N := some 28) (bl 24 106495) (take_ofW HT_.out HW_.out (by kernel_rfl)) hHeld ?_
    refine ta (i := 14) (N := some 32) (bl 24 122879) (take_ofW HT_.out HW_.out (by kernel_rfl)) hHeld ?_
    refine one_ (i := 13) (N := some 31) (bl 24 131071) rfl rfl (one_of HT_.out (by kernel_rfl)) (by decide) (fun K hK => ?_)
    refine goes_ Try.func15 (by kernel_rfl) rfl #[.agg #[.string a0_0, .string a0_1, .int .i64 a0_2], .int .i64 a1, .slice Ao36 t283.length co36] (by rfl) rfl rfl (by (try simp only [List.map_toArray, List.map_cons, List.map_nil]); first | done | rfl | (simp only [List.length_drop, List.length_take]; rfl)) ?_
    with_reducible refine (release_Publish.calls k a0_0 a0_1 a0_2 a1 _ _ t283 t294 _ ?side1 ?side2 A11.out).mono ?_
    (case side1 => repeat (first | exact (Kd.V_reads' HO285.out).2.2 | (with_reducible refine Kd.C_alloc ?_ _) | (with_reducible refine Kd.C_drewN ?_ _) | (with_reducible refine Kd.C_drew ?_)))
    (case side2 => exact (Kd.V_reads' HO285.out).2.1)
    rintro e w37 ⟨v295, rfl, ho0, hb⟩
    refine ⟨_, rfl, ?_⟩
    have n0_ := Aside0.mk (Kd.V_below (by (with_reducible repeat (first | apply Kd.V_alloc | apply Kd.V_drewN | apply Kd.V_drew)); exact HO285.out) hb)
    have n1_ := Aside0.mk (Kd.V_below (by (with_reducible repeat (first | apply Kd.V_alloc | apply Kd.V_drewN | apply Kd.V_drew)); exact HO289.out) hb)
    have n2_ := Aside0.mk (Kd.S_below (by (with_reducible repeat (first | apply Kd.S_alloc | apply Kd.S_drewN | apply Kd.S_drew)); exact HO292.out) hb)
    have n3_ := Aside0.mk (Kd.V_lower (Kd.V_mono (ok' := fun k_ => some k_ ≠ (.slice Ao35 t290.length co35 : Value).ownBlock ∧ k_ ≠ gb280) ho0 (fun k_ hk_ => ⟨(Kd.fresh' (Kd.S_lt (by (with_reducible repeat (first | apply Kd.S_alloc | apply Kd.S_drewN | apply Kd.S_drew)); exact HO292.out)) k_ hk_), (Kd.freshB (g := gb280) (o := .cells #[.string a0_0, .string a0_1, .int .i64 a0_2] 23 (0, 0)) (by (with_reducible repeat (first | refine blk_drewN ?_ _ | refine blk_drew ?_ | refine blk_alloc ?_ _)); exact BK280.out) k_ hk_)⟩)) (below_size (by repeat (first | (with_reducible first | exact HB.out | apply below_alloc | apply pw_below_drewN | apply below_drew1 | refine below_set ?_ GE280.out) | exact HB.out))))
    have n4_ := Aside0.mk (blk_below (g := gb280) (o := .cells #[.string a0_0, .string a0_1, .int .i64 a0_2] 23 (0, 0)) (by (with_reducible repeat (first | refine blk_drewN ?_ _ | refine blk_drew ?_ | refine blk_alloc ?_ _)); exact BK280.out) hb)
    have n5_ := Aside0.mk (below_step (by repeat (first | (with_reducible first | exact HB.out | apply below_alloc | apply pw_below_drewN | apply below_drew1 | refine below_set ?_ GE280.out) | exact HB.out)) hb)
    clear HO285
    clear HO289
    clear HO292
    clear BK280
    clear HB
    have HO285 := n0_
    have HO289 := n1_
    have HO292 := n2_
    have HO296 := n3_
    have BK280 := n4_
    have HB := n5_
    clear n0_ n1_ n2_ n3_ n4_ n5_
    (try clear hb)
    (try clear hb2)
    (try clear hk)
    (try clear hi)
    (try clear ho0)
    refine hK.out _ _ ⟨(blk_cell BK280.out 0).trans rfl, (blk_cell BK280.out 1).trans rfl, (blk_cell BK280.out 2).trans rfl⟩ (fun hHeld => ?_)
    clear hK K
    refine norm_ (a' := ?_) ?_ ?_
    rotate_left
    ·show Act.put _ (some 31) _ = _
     simp only [Act.put, List.setIfInBounds_toArray, List.set_cons_zero, List.set_cons_succ, i64_w, i32_w]
     rfl
    refine one_ (i := 17) (N := some 35) (bl 24 262143) rfl rfl (one_of HT_.out (by kernel_rfl)) (by decide) (fun K hK => ?_)
    refine goes_ Try.func16 (by kernel_rfl) rfl #[.agg #[.string a0_0, .string a0_1, .int .i64 a0_2], .int .i64 a1, .slice Ao36 t283.length co36] (by rfl) rfl rfl (by (try simp only [List.map_toArray, List.map_cons, List.map_nil]); first | done | rfl | (simp only [List.length_drop, List.length_take]; rfl)) ?_
    with_reducible refine (erasureref35_Publish.calls k a0_0 a0_1 a0_2 a1 _ _ t283 t297 _ ?side1 ?side2 A12.out).mono ?_
    (case side1 => repeat (first | exact (Kd.V_reads' HO285.out).2.2 | (with_reducible refine Kd.C_alloc ?_ _) | (with_reducible refine Kd.C_drewN ?_ _) | (with_reducible refine Kd.C_drew ?_)))
    (case side2 => exact (Kd.V_reads' HO285.out).2.1)
    rintro e w38 ⟨v298, rfl, ho0, hb⟩
    refine ⟨_, rfl, ?_⟩
    have n0_ := Aside0.mk (Kd.V_elder' (by (with_reducible repeat (first | apply Kd.V_alloc | apply Kd.V_drewN | apply Kd.V_drew)); exact HO285.out) (Kd.S_base ho0) hb)
    have n1_ := Aside0.mk (Kd.V_elder' (by (with_reducible repeat (first | apply Kd.V_alloc | apply Kd.V_drewN | apply Kd.V_drew)); exact HO289.out) (Kd.S_base ho0) hb)
    have n2_ := Aside0.mk (Kd.S_elder' (by (with_reducible repeat (first | apply Kd.S_alloc | apply Kd.S_drewN | apply Kd.S_drew)); exact HO292.out) (Kd.S_base ho0) hb)
    have n3_ := Aside0.mk (Kd.V_elder' (by (with_reducible repeat (first | apply Kd.V_alloc | apply Kd.V_drewN | apply Kd.V_drew)); exact HO296.out) (Kd.S_base ho0) hb)
    have n4_ := Aside0.mk (Kd.S_lower (Kd.S_new' ho0 (Kd.S_lt (by (with_reducible repeat (first | apply Kd.S_alloc | apply Kd.S_drewN | apply Kd.S_drew)); exact HO292.out))) (below_size (by repeat (first | (with_reducible first | exact HB.out | apply below_alloc | apply pw_below_drewN | apply below_drew1 | refine below_set ?_ GE280.out) | exact HB.out))))
    have n5_ := Aside0.mk (blk_below (g := gb280) (o := .cells #[.string a0_0, .string a0_1, .int .i64 a0_2] 23 (0, 0)) (by (with_reducible repeat (first | refine blk_drewN ?_ _ | refine blk_drew ?_ | refine blk_alloc ?_ _)); exact BK280.out) hb)
    have n6_ := Aside0.mk (below_step (by repeat (first | (with_reducible first | exact HB.out | apply below_alloc | apply pw_below_drewN | apply below_drew1 | refine below_set ?_ GE280.out) | exact HB.out)) hb)
    clear HO285
    clear HO289
    clear HO292
    clear HO296
    clear BK280
    clear HB
    have HO285 := n0_
    have HO289 := n1_
    have HO292 := n2_
    have HO296 := n3_
    have HO299 := n4_
    have BK280 := n5_
    have HB := n6_
    clear n0_ n1_ n2_ n3_ n4_ n5_ n6_
    (try clear hb)
    (try clear hb2)
    (try clear hk)
    (try clear hi)
    (try clear ho0)
    obtain ⟨Ao39, co39, eo39⟩ := Kd.V_slice HO296.out
    (first | subst eo39 | (injection eo39 with f1_ f2_ f3_; have f4_ := f1_.symm; have f5_ := f3_.symm; clear f1_ f2_ f3_; subst f4_; subst f5_))
    obtain ⟨Ao40, co40, eo40⟩ := Kd.S_slice HO299.out
    (first | subst eo40 | (injection eo40 with f1_ f2_ f3_; have f4_ := f1_.symm; have f5_ := f3_.symm; clear f1_ f2_ f3_; subst f4_; subst f5_))
    refine hK.out _ _ ⟨(blk_cell BK280.out 0).trans rfl, (blk_cell BK280.out 1).trans rfl, (blk_cell BK280.out 2).trans rfl⟩ (fun hHeld => ?_)
    clear hK K
    refine norm_ (a' := ?_) ?_ ?_
    rotate_left
    ·show Act.put _ (some 35) _ = _
     simp only [Act.put, List.setIfInBounds_toArray, List.set_cons_zero, List.set_cons_succ, i64_w, i32_w]
     rfl
    refine one_ (i := 18) (N := some 36) (bl 24 524287) rfl rfl (one_of HT_.out (by kernel_rfl)) (by decide) (fun K hK => ?_)
    refine goes_ Try.func14 (by kernel_rfl) rfl #[.slice Ao39 t294.length co39, .slice Ao40 t297.length co40] (by rfl) rfl rfl (by (try simp only [List.map_toArray, List.map_cons, List.map_nil]); first | done | rfl | (simp only [List.length_drop, List.length_take]; rfl)) ?_
    with_reducible refine (erasureref35_Same.calls k _ _ t294 _ _ t297 false _ ?side1 ?side2 ?side3 ?side4 A13.out).mono ?_
    (case side1 => repeat (first | exact (Kd.V_reads' HO296.out).2.2 | (with_reducible refine Kd.C_alloc ?_ _) | (with_reducible refine Kd.C_drewN ?_ _) | (with_reducible refine Kd.C_drew ?_)))
    (case side2 => exact (Kd.V_reads' HO296.out).2.1)
    (case side3 => repeat (first | exact (Kd.S_reads' HO299.out).2.2 | (with_reducible refine Kd.C_alloc ?_ _) | (with_reducible refine Kd.C_drewN ?_ _) | (with_reducible refine Kd.C_drew ?_)))
    (case side4 => exact (Kd.S_reads' HO299.out).2.1)
    rintro e w' ⟨rfl, ⟨nd, rfl⟩⟩
    refine ⟨_, rfl, ?_⟩
    refine hK.out _ _ ⟨(blk_cell BK280.out 0).trans rfl, (blk_cell BK280.out 1).trans rfl, (blk_cell BK280.out 2).trans rfl⟩ (fun hHeld => ?_)
    clear hK K
    refine norm_ (a' := ?_) ?_ ?_
    rotate_left
    ·show Act.put _ (some 36) _ = _
     simp only [Act.put, List.setIfInBounds_toArray, List.set_cons_zero, List.set_cons_succ, i64_w, i32_w]
     rfl
    refine pu (i := 19) (N := some 37) (bl 24 1048575) (any_of HT_.out (by kernel_rfl)) ?_
    refine pu (i := 20) (N := some 38) (bl 24 2097151) (any_of HT_.out (by kernel_rfl)) ?_
    refine po (i := 21) (N := some 39) (bl 24 4194303) (any_of HT_.out (by kernel_rfl)) ?_
    refine pu (i := 22) (N := some 40) (bl 24 8388607) (any_of HT_.out (by kernel_rfl)) ?_
    refine pu (i := 23) (N := some 6) (bl 24 16777215) (any_of HT_.out (by kernel_rfl)) ?_
    refine done_ (done_of HT_.out (by kernel_rfl)) ?_
    try go_wp2
    go_ret
    exact ⟨by first | rfl | (simp [errW_none, errW_some] <;> rfl) | (simp [*, errW_none, errW_some] <;> rfl), by repeat (first | (with_reducible first | exact HB.out | apply below_alloc | apply pw_below_drewN | apply below_drew1 | refine below_set ?_ GE280.out) | exact HB.out)⟩
  ·replace c10 := Bool.eq_false_iff.mpr c10
   subst c10
   have H1 : (some false) = some r := by rw [if_neg (show ¬ (false = true) by decide)] at H; exact H
   clear H
   have H := H1
   clear H1
   obtain rfl := Option.some.inj H
   go_enter Try.func3, Try.ntmps3
   try go_wp2_with (first | ((with_reducible refine gate_dst (N := 3) rfl ?_); refine box_event ?hg (N := 3) ?hd (cs := #[.string a0_0, .string a0_1, .int .i64 a0_2]) (t := 23) ?hr ?_; (case hd => rfl); (case hg => rfl); (case hr => first | (go_simp; done) | (go_simp; rfl)); intro gb280 hg w41 hbox hb; have n0_ := Aside0.mk (below_step (by repeat (first | (with_reducible first | exact HB.out | apply below_alloc | apply pw_below_drewN | apply below_drew1) | exact HB.out)) hb); have n1_ := Aside0.mk (hbox); have n2_ := Aside0.mk ((by rw [hg]; exact (below_size (by repeat (first | (with_reducible first | exact HB.out | apply below_alloc | apply pw_below_drewN | apply below_drew1) | exact HB.out))) : w.heap.size ≤ gb280)); have n3_ := Aside0.mk ((by rw [hg]; exact (below_size (by repeat (first | (with_reducible first | exact HB.out | apply below_alloc | apply pw_below_drewN | apply below_drew1) | exact HB.out))) : w.heap.size ≤ gb280)); clear HB; have HB := n0_; have BK280 := n1_; have GW280 := n2_; have GE280 := n3_; clear n0_ n1_ n2_ n3_; clear hb hbox hg) | ((with_reducible refine gate_callee (f := 11) rfl ?_); refine goesL_ (some 10) rfl rfl Try.func11 (by kernel_rfl) rfl #[.slice A2 l2.length c2] rfl (by (try simp only [List.map_toArray, List.map_cons, List.map_nil]); first | done | rfl | (simp only [List.length_drop, List.length_take]; rfl)) ?_; (with_reducible refine (erasurelaw35_short.calls k _ _ l2 true _ ?side1 ?side2 A4.out).mono ?_); (case side1 => repeat (first | exact (Kd.C_below HR2.out HB.out) | (with_reducible refine Kd.C_alloc ?_ _) | (with_reducible refine Kd.C_drewN ?_ _) | (with_reducible refine Kd.C_drew ?_))); (case side2 => exact HC2.out); rintro e w' ⟨rfl, ⟨nd, rfl⟩⟩; refine ⟨_, rfl, ?_⟩) | ((with_reducible refine gate_callee (f := 13) rfl ?_); refine goesL_ (some 15) rfl rfl Try.func13 (by kernel_rfl) rfl #[.slice A2 l2.length c2] rfl (by (try simp only [List.map_toArray, List.map_cons, List.map_nil]); first | done | rfl | (simp only [List.length_drop, List.length_take]; rfl)) ?_; (with_reducible refine (erasureref06_Normalize.calls k (fun k_ => k_ < w.heap.size) _ _ l2 t283 t286 _ ?side1 A6.out).mono ?_); (case side1 => exact Kd.V_mk HC2.out (Kd.F_below (Kd.C_F k41_heap HR2.out) (by repeat (first | (with_reducible first | exact HB.out | apply below_alloc | apply pw_below_drewN | apply below_drew1 | refine below_set ?_ GE280.out) | exact HB.out)))); rintro e w42 ⟨v284, rfl, ho0, hb⟩; refine ⟨_, rfl, ?_⟩; have n0_ := Aside0.mk (Kd.V_lower (Kd.V_mono (ok' := fun k_ => k_ ≠ gb280) ho0 (fun k_ hk_ => Or.elim hk_ (fun hs_ => fun e_ => Nat.not_le.2 hs_ (by rw [e_]; exact GW280.out)) (fun hn_ => (Kd.freshB (g := gb280) (o := .cells #[.string a0_0, .string a0_1, .int .i64 a0_2] 23 (0, 0)) (by (with_reducible repeat (first | refine blk_drewN ?_ _ | refine blk_drew ?_ | refine blk_alloc ?_ _)); exact BK280.out) k_ hn_)))) (below_size (by repeat (first | (with_reducible first | exact HB.out | apply below_alloc | apply pw_below_drewN | apply below_drew1 | refine below_set ?_ GE280.out) | exact HB.out)))); have n1_ := Aside0.mk (blk_below (g := gb280) (o := .cells #[.string a0_0, .string a0_1, .int .i64 a0_2] 23 (0, 0)) (by (with_reducible repeat (first | refine blk_drewN ?_ _ | refine blk_drew ?_ | refine blk_alloc ?_ _)); exact BK280.out) hb); have n2_ := Aside0.mk (below_step (by repeat (first | (with_reducible first | exact HB.out | apply below_alloc | apply pw_below_drewN | apply below_drew1 | refine below_set ?_ GE280.out) | exact HB.out)) hb); clear BK280; clear HB; have HO285 := n0_; have BK280 := n1_; have HB := n2_; clear n0_ n1_ n2_; (try clear hb); (try clear hb2); (try clear hk); (try clear hi); (try clear ho0)))
   have n0_ := Aside0.mk (Kd.V_drew HO285.out)
   have n1_ := Aside0.mk (blk_drew BK280.out)
   have n2_ := Aside0.mk (below_drew1 HB.out)
   clear HO285
   clear BK280
   clear HB
   have HO285 := n0_
   have BK280 := n1_
   have HB := n2_
   clear n0_ n1_ n2_
   refine start_ (n := 24) (S := fun w' => w'.cell? ⟨gb280, 0, none⟩ = some (.string a0_0) ∧ w'.cell? ⟨gb280, 1, none⟩ = some (.string a0_1) ∧ w'.cell? ⟨gb280, 2, none⟩ = some (.int .i64 a0_2)) (ds := []) #[false, false, false, false, false, false, false, false, false, false, false, false, false, false, false, false, false, false, false, false, false, false, false, false] (by kernel_rfl) rfl rfl ⟨(blk_cell BK280.out 0).trans rfl, (blk_cell BK280.out 1).trans rfl, (blk_cell BK280.out 2).trans rfl⟩ (fun hHeld => ?_); refine with_tabW erasurelaw35_ReleasePublishes.tab4 erasurelaw35_ReleasePublishes.bits4 (fun HT_ HW_ => ?_)
   generalize w42.drew = w43 at HO285 BK280 HB hHeld ⊢
   refine pu (i := 1) (N := some 19) (bl 24 2) (any_of HT_.out (by kernel_rfl)) ?_
   refine pu (i := 2) (N := some 20) (bl 24 6) (any_of HT_.out (by kernel_rfl)) ?_
   refine pu (i := 5) (N := some 23) (bl 24 38) (any_of HT_.out (by kernel_rfl)) ?_
   refine pu (i := 6) (N := some 24) (bl 24 102) (any_of HT_.out (by kernel_rfl)) ?_
   refine ta (i := 0) (N := some 18) (bl 24 103) (take_ofW HT_.out HW_.out (by kernel_rfl)) hHeld ?_
   refine ta (i := 4) (N := some 22) (bl 24 119) (take_ofW HT_.out HW_.out (by kernel_rfl)) hHeld ?_
   refine one_ (i := 3) (N := some 21) (bl 24 127) rfl rfl (one_of HT_.out (by kernel_rfl)) (by decide) (fun K hK => ?_)
   refine goes_ Try.func15 (by kernel_rfl) rfl #[.agg #[.string a0_0, .string a0_1, .int .i64 a0_2], .int .i64 a1, .slice A2 l2.length c2] (by rfl) rfl rfl (by (try simp only [List.map_toArray, List.map_cons, List.map_nil]); first | done | rfl | (simp only [List.length_drop, List.length_take]; rfl)) ?_
   with_reducible refine (release_Publish.calls k a0_0 a0_1 a0_2 a1 _ _ l2 t287 _ ?side1 ?side2 A7.out).mono ?_
   (case side1 => repeat (first | exact (Kd.C_below HR2.out HB.out) | (with_reducible refine Kd.C_alloc ?_ _) | (with_reducible refine Kd.C_drewN ?_ _) | (with_reducible refine Kd.C_drew ?_)))
   (case side2 => exact HC2.out)
   rintro e w44 ⟨v288, rfl, ho0, hb⟩
   refine ⟨_, rfl, ?_⟩
   have n0_ := Aside0.mk (Kd.V_below (by (with_reducible repeat (first | apply Kd.V_alloc | apply Kd.V_drewN | apply Kd.V_drew)); exact HO285.out) hb)
   have n1_ := Aside0.mk (Kd.V_lower (Kd.V_mono (ok' := fun k_ => k_ ≠ gb280) ho0 (fun k_ hk_ => (Kd.freshB (g := gb280) (o := .cells #[.string a0_0, .string a0_1, .int .i64 a0_2] 23 (0, 0)) (by (with_reducible repeat (first | refine blk_drewN ?_ _ | refine blk_drew ?_ | refine blk_alloc ?_ _)); exact BK280.out) k_ hk_))) (below_size (by repeat (first | (with_reducible first | exact HB.out | apply below_alloc | apply pw_below_drewN | apply below_drew1 | refine below_set ?_ GE280.out) | exact HB.out))))
   have n2_ := Aside0.mk (blk_below (g := gb280) (o := .cells #[.string a0_0, .string a0_1, .int .i64 a0_2] 23 (0, 0)) (by (with_reducible repeat (first | refine blk_drewN ?_ _ | refine blk_drew ?_ | refine blk_alloc ?_ _)); exact BK280.out) hb)
   have n3_ := Aside0.mk (below_step (by repeat (first | (with_reducible first | exact HB.out | apply below_alloc | apply pw_below_drewN | apply below_drew1 | refine below_set ?_ GE280.out) | exact HB.out)) hb)
   clear HO285
   clear BK280
   clear HB
   have HO285 := n0_
   have HO289 := n1_
   have BK280 := n2_
   have HB := n3_
   clear n0_ n1_ n2_ n3_
   (try clear hb)
   (try clear hb2)
   (try clear hk)
   (try clear hi)
   (try clear ho0)
   refine hK.out _ _ ⟨(blk_cell BK280.out 0).trans rfl, (blk_cell BK280.out 1).trans rfl, (blk_cell BK280.out 2).trans rfl⟩ (fun hHeld => ?_)
   clear hK K
   refine norm_ (a' := ?_) ?_ ?_
   rotate_left
   ·show Act.put _ (some 21) _ = _
    simp only [Act.put, List.setIfInBounds_toArray, List.set_cons_zero, List.set_cons_succ, i64_w, i32_w]
    rfl
   refine one_ (i := 7) (N := some 25) (bl 24 255) rfl rfl (one_of HT_.out (by kernel_rfl)) (by decide) (fun K hK => ?_)
   refine goes_ Try.func16 (by kernel_rfl) rfl #[.agg #[.string a0_0, .string a0_1, .int .i64 a0_2], .int .i64 a1, .slice A2 l2.length c2] (by rfl) rfl rfl (by (try simp only [List.map_toArray, List.map_cons, List.map_nil]); first | done | rfl | (simp only [List.length_drop, List.length_take]; rfl)) ?_
   with_reducible refine (erasureref35_Publish.calls k a0_0 a0_1 a0_2 a1 _ _ l2 t290 _ ?side1 ?side2 A8.out).mono ?_
   (case side1 => repeat (first | exact (Kd.C_below HR2.out HB.out) | (with_reducible refine Kd.C_alloc ?_ _) | (with_reducible refine Kd.C_drewN ?_ _) | (with_reducible refine Kd.C_drew ?_)))
   (case side2 => exact HC2.out)
   rintro e w45 ⟨v291, rfl, ho0, hb⟩
   refine ⟨_, rfl, ?_⟩
   have n0_ := Aside0.mk (Kd.V_elder' (by (with_reducible repeat (first | apply Kd.V_alloc | apply Kd.V_drewN | apply Kd.V_drew)); exact HO285.out) (Kd.S_base ho0) hb)
   have n1_ := Aside0.mk (Kd.V_elder' (by (with_reducible repeat (first | apply Kd.V_alloc | apply Kd.V_drewN | apply Kd.V_drew)); exact HO289.out) (Kd.S_base ho0) hb)
   have n2_ := Aside0.mk (Kd.S_lower ho0 (below_size (by repeat (first | (with_reducible first | exact HB.out | apply below_alloc | apply pw_below_drewN | apply below_drew1 | refine below_set ?_ GE280.out) | exact HB.out))))
   have n3_ := Aside0.mk (blk_below (g := gb280) (o := .cells #[.string a0_0, .string a0_1, .int .i64 a0_2] 23 (0, 0)) (by (with_reducible repeat (first | refine blk_drewN ?_ _ | refine blk_drew ?_ | refine blk_alloc ?_ _)); exact BK280.out) hb)
   have n4_ := Aside0.mk (below_step (by repeat (first | (with_reducible first | exact HB.out | apply below_alloc | apply pw_below_drewN | apply below_drew1 | refine below_set ?_ GE280.out) | exact HB.out)) hb)
   clear HO285
   clear HO289
   clear BK280
   clear HB
   have HO285 := n0_
   have HO289 := n1_
   have HO292 := n2_
   have BK280 := n3_
   have HB := n4_
   clear n0_ n1_ n2_ n3_ n4_
   (try clear hb)
   (try clear hb2)
   (try clear hk)
   (try clear hi)
   (try clear ho0)
   obtain ⟨Ao46, co46, eo46⟩ := Kd.V_slice HO289.out
   (first | subst eo46 | (injection eo46 with f1_ f2_ f3_; have f4_ := f1_.symm; have f5_ := f3_.symm; clear f1_ f2_ f3_; subst f4_; subst f5_))
   obtain ⟨Ao47, co47, eo47⟩ := Kd.S_slice HO292.out
   (first | subst eo47 | (injection eo47 with f1_ f2_ f3_; have f4_ := f1_.symm; have f5_ := f3_.symm; clear f1_ f2_ f3_; subst f4_; subst f5_))
   refine hK.out _ _ ⟨(blk_cell BK280.out 0).trans rfl, (blk_cell BK280.out 1).trans rfl, (blk_cell BK280.out 2).trans rfl⟩ (fun hHeld => ?_)
   clear hK K
   refine norm_ (a' := ?_) ?_ ?_
   rotate_left
   ·show Act.put _ (some 25) _ = _
    simp only [Act.put, List.setIfInBounds_toArray, List.set_cons_zero, List.set_cons_succ, i64_w, i32_w]
    rfl
   refine one_ (i := 8) (N := some 26) (bl 24 511) rfl rfl (one_of HT_.out (by kernel_rfl)) (by decide) (fun K hK => ?_)
   refine goes_ Try.func14 (by kernel_rfl) rfl #[.slice Ao46 t287.length co46, .slice Ao47 t290.length co47] (by rfl) rfl rfl (by (try simp only [List.map_toArray, List.map_cons, List.map_nil]); first | done | rfl | (simp only [List.length_drop, List.length_take]; rfl)) ?_
   with_reducible refine (erasureref35_Same.calls k _ _ t287 _ _ t290 false _ ?side1 ?side2 ?side3 ?side4 A9.out).mono ?_
   (case side1 => repeat (first | exact (Kd.V_reads' HO289.out).2.2 | (with_reducible refine Kd.C_alloc ?_ _) | (with_reducible refine Kd.C_drewN ?_ _) | (with_reducible refine Kd.C_drew ?_)))
   (case side2 => exact (Kd.V_reads' HO289.out).2.1)
   (case side3 => repeat (first | exact (Kd.S_reads' HO292.out).2.2 | (with_reducible refine Kd.C_alloc ?_ _) | (with_reducible refine Kd.C_drewN ?_ _) | (with_reducible refine Kd.C_drew ?_)))
   (case side4 => exact (Kd.S_reads' HO292.out).2.1)
   rintro e w' ⟨rfl, ⟨nd, rfl⟩⟩
   refine ⟨_, rfl, ?_⟩
   refine hK.out _ _ ⟨(blk_cell BK280.out 0).trans rfl, (blk_cell BK280.out 1).trans rfl, (blk_cell BK280.out 2).trans rfl⟩ (fun hHeld => ?_)
   clear hK K
   refine norm_ (a' := ?_) ?_ ?_
   rotate_left
   ·show Act.put _ (some 26) _ = _
    simp only [Act.put, List.setIfInBounds_toArray, List.set_cons_zero, List.set_cons_succ, i64_w, i32_w]
    rfl
   refine pu (i := 9) (N := some 27) (bl 24 1023) (any_of HT_.out (by kernel_rfl)) ?_
   refine po (i := 10) (N := some 28) (bl 24 2047) (any_of HT_.out (by kernel_rfl)) ?_
   refine po (i := 11) (N := some 29) (bl 24 4095) (any_of HT_.out (by kernel_rfl)) ?_
   refine po (i := 12) (N := some 30) (bl 24 8191) (any_of HT_.out (by kernel_rfl)) ?_
   refine po (i := 13) (N := some 31) (bl 24 16383) (any_of HT_.out (by kernel_rfl)) ?_
   refine po (i := 14) (N := some 32) (bl 24 32767) (any_of HT_.out (by kernel_rfl)) ?_
   refine po (i := 15) (N := some 33) (bl 24 65535) (any_of HT_.out (by kernel_rfl)) ?_
   refine po (i := 16) (N := some 34) (bl 24 131071) (any_of HT_.out (by kernel_rfl)) ?_
   refine po (i := 17) (N := some 35) (bl 24 262143) (any_of HT_.out (by kernel_rfl)) ?_
   refine po (i := 18) (N := some 36) (bl 24 524287) (any_of HT_.out (by kernel_rfl)) ?_
   refine pu (i := 19) (N := some 37) (bl 24 1048575) (any_of HT_.out (by kernel_rfl)) ?_
   refine pu (i := 20) (N := some 38) (bl 24 2097151) (any_of HT_.out (by kernel_rfl)) ?_
   refine po (i := 21) (N := some 39) (bl 24 4194303) (any_of HT_.out (by kernel_rfl)) ?_
   refine pu (i := 22) (N := some 40) (bl 24 8388607) (any_of HT_.out (by kernel_rfl)) ?_
   refine pu (i := 23) (N := some 6) (bl 24 16777215) (any_of HT_.out (by kernel_rfl)) ?_
   refine done_ (done_of HT_.out (by kernel_rfl)) ?_
   try go_wp2
   go_ret
   exact ⟨by first | rfl | (simp [errW_none, errW_some] <;> rfl) | (simp [*, errW_none, errW_some] <;> rfl), by repeat (first | (with_reducible first | exact HB.out | apply below_alloc | apply pw_below_drewN | apply below_drew1 | refine below_set ?_ GE280.out) | exact HB.out)⟩
 ·replace c5 := Bool.eq_false_iff.mpr c5
  subst c5
  have H1 : ((erasurelaw35_awake.f k).bind fun t282 => (some t282)) = some r := by rw [if_neg (show ¬ (false = true) by decide)] at H; exact H
  clear H
  have H := H1
  clear H1
  replace H := Option.bind_eq_some_iff.mp H
  obtain ⟨t282, A480, H⟩ := H
  replace H : (some t282) = some r := H
  have A48 := Aside0.mk A480
  clear A480
  obtain rfl := Option.some.inj H
  go_enter Try.func3, Try.ntmps3
  go_wp2_with (first | ((with_reducible refine gate_dst (N := 3) rfl ?_); refine box_event ?hg (N := 3) ?hd (cs := #[.string a0_0, .string a0_1, .int .i64 a0_2]) (t := 23) ?hr ?_; (case hd => rfl); (case hg => rfl); (case hr => first | (go_simp; done) | (go_simp; rfl)); intro gb280 hg w49 hbox hb; have n0_ := Aside0.mk (below_step (by repeat (first | (with_reducible first | exact HB.out | apply below_alloc | apply pw_below_drewN | apply below_drew1) | exact HB.out)) hb); have n1_ := Aside0.mk (hbox); have n2_ := Aside0.mk ((by rw [hg]; exact (below_size (by repeat (first | (with_reducible first | exact HB.out | apply below_alloc | apply pw_below_drewN | apply below_drew1) | exact HB.out))) : w.heap.size ≤ gb280)); have n3_ := Aside0.mk ((by rw [hg]; exact (below_size (by repeat (first | (with_reducible first | exact HB.out | apply below_alloc | apply pw_below_drewN | apply below_drew1) | exact HB.out))) : w.heap.size ≤ gb280)); clear HB; have HB := n0_; have BK280 := n1_; have GW280 := n2_; have GE280 := n3_; clear n0_ n1_ n2_ n3_; clear hb hbox hg) | ((with_reducible refine gate_callee (f := 11) rfl ?_); refine goesL_ (some 10) rfl rfl Try.func11 (by kernel_rfl) rfl #[.slice A2 l2.length c2] rfl (by (try simp only [List.map_toArray, List.map_cons, List.map_nil]); first | done | rfl | (simp only [List.length_drop, List.length_take]; rfl)) ?_; (with_reducible refine (erasurelaw35_short.calls k _ _ l2 false _ ?side1 ?side2 A4.out).mono ?_); (case side1 => repeat (first | exact (Kd.C_below HR2.out HB.out) | (with_reducible refine Kd.C_alloc ?_ _) | (with_reducible refine Kd.C_drewN ?_ _) | (with_reducible refine Kd.C_drew ?_))); (case side2 => exact HC2.out); rintro e w' ⟨rfl, ⟨nd, rfl⟩⟩; refine ⟨_, rfl, ?_⟩) | ((with_reducible refine gate_callee (f := 12) rfl ?_); refine goesL_ (some 12) rfl rfl Try.func12 (by kernel_rfl) rfl #[] rfl (by (try simp only [List.map_toArray, List.map_cons, List.map_nil]); first | done | rfl | (simp only [List.length_drop, List.length_take]; rfl)) ?_; (with_reducible refine (erasurelaw35_awake.calls k  t282 _ A48.out).mono ?_); rintro e w50 ⟨rfl, hb⟩; refine ⟨_, rfl, ?_⟩; have n0_ := Aside0.mk (blk_below (g := gb280) (o := .cells #[.string a0_0, .string a0_1, .int .i64 a0_2] 23 (0, 0)) (by (with_reducible repeat (first | refine blk_drewN ?_ _ | refine blk_drew ?_ | refine blk_alloc ?_ _)); exact BK280.out) hb); have n1_ := Aside0.mk (below_step (by repeat (first | (with_reducible first | exact HB.out | apply below_alloc | apply pw_below_drewN | apply below_drew1 | refine below_set ?_ GE280.out) | exact HB.out)) hb); clear BK280; clear HB; have BK280 := n0_; have HB := n1_; clear n0_ n1_; (try clear hb); (try clear hb2); (try clear hk); (try clear hi)))
  go_ret
  exact ⟨by first | rfl | (simp [errW_none, errW_some] <;> rfl) | (simp [*, errW_none, errW_some] <;> rfl), by repeat (first | (with_reducible first | exact HB.out | apply below_alloc | apply pw_below_drewN | apply below_drew1 | refine below_set ?_ GE280.out) | exact HB.out)⟩
end Go.Proofs.Ytjhnpaenhdbhpaa.P
namespace Go.Proofs.Ytjhnpaenhdbhpaa.Q
open Go.RowKit Go.Proofs.Ytjhnpaenhdbhpaa.P Go.Proofs.YtjhnpaenhdbhpaaW.PrintWords Go.Proofs.YtjhnpaenhdbhpaaW.PrintLast
set_option linter.unusedVariables false
set_option linter.unusedSimpArgs false
theorem wr {n : Int} (h : -9223372036854775808 ≤ n ∧ n ≤ 9223372036854775807) : wrap64 n = n := by unfold wrap64; omega
theorem Ev.ite_pos {α : Type} {g f : Nat → Option α} {r : α} {c : Prop} [Decidable c] (h : c) (k : Ev g r) : Ev (fun n => if c then g n else f n) r := Ev.congr (fun n => if_pos h) k
theorem Ev.ite_neg {α : Type} {g f : Nat → Option α} {r : α} {c : Prop} [Decidable c] (h : ¬ c) (k : Ev f r) : Ev (fun n => if c then g n else f n) r := Ev.congr (fun n => if_neg h) k
theorem Ev.bindc {α β : Type} {o : Option α} {f : Nat → α → Option β} {a : α} {r : β} (h : o = some a) (k : Ev (fun n => f n a) r) : Ev (fun n => o.bind (f n)) r := Ev.congr (fun n => by rw [h]; rfl) k
theorem Ev.done {α : Type} {o : Option α} {r : α} (h : o = some r) : Ev (fun _ => o) r := ⟨0, fun _ _ => h⟩
theorem bytes_ext {a b : ByteArray} (h : a.toList = b.toList) : a = b := by
  have e : a.data.toList = b.data.toList := by rw [← ByteArray.toList_eq, ← ByteArray.toList_eq]; exact h
  cases a; cases b
  congr 1
  exact Array.toList_inj.1 e
theorem emptyBytes : (⟨#[]⟩ : ByteArray).toList = [] := by rw [ByteArray.toList_eq]
theorem emptyBytes_iff (a : ByteArray) : a.toList = [] ↔ a = (⟨#[]⟩ : ByteArray) := ⟨fun h => bytes_ext (h.trans emptyBytes.symm), fun h => by rw [h]; exact emptyBytes⟩
theorem Ev.succ {α : Type} {g : Nat → Option α} {r : α} (k : Ev (fun n => g (n + 1)) r) : Ev g r := by
  obtain ⟨K, h⟩ := k
  exact ⟨K + 1, fun k hk => by obtain ⟨m, rfl⟩ : ∃ m, k = m + 1 := ⟨k - 1, by omega⟩; exact h m (by omega)⟩
theorem loop_down {P : Nat → Prop} (n : Nat) (hend : P n) (hstep : ∀ i, i < n → P (i + 1) → P i) : ∀ i, i ≤ n → P i := by
  intro i hi
  have key : ∀ d i, i + d = n → P i := by
    intro d
    induction d with
    | zero => intro i h; have : i = n := by omega
              rw [this]; exact hend
    | succ d ih => intro i h; exact hstep i (by omega) (ih (i + 1) (by omega))
  exact key (n - i) i (by omega)
theorem wrn {i n : Nat} (h : i < n) (hn : n ≤ 9223372036854775807) : wrap64 ((i : Int) + 1) = ((i + 1 : Nat) : Int) := by rw [wr (by omega)]; omega
theorem wrp {i : Nat} (h : 0 < i) (hn : i ≤ 9223372036854775807) : wrap64 ((i : Int) - 1) = ((i - 1 : Nat) : Int) := by rw [wr (by omega)]; omega
theorem drop_cons {α : Type} (z : α) {l : List α} {i : Nat} (h : i < l.length) : l.drop i = l.getD (i : Int).toNat z :: l.drop (i + 1) := by
  rw [List.drop_eq_getElem_cons h]; simp [h]
end Go.Proofs.Ytjhnpaenhdbhpaa.Q
namespace Go.Proofs.Ytjhnpaenhdbhpaa.Q
open Go.RowKit Go.Proofs.Ytjhnpaenhdbhpaa.P Go.Proofs.YtjhnpaenhdbhpaaW.PrintWords Go.Proofs.YtjhnpaenhdbhpaaW.PrintLast
set_option linter.unusedVariables false
set_option linter.unusedSimpArgs false
theorem V_ext {x y : S38} (h0 : x.f0 = y.f0) (h1 : x.f1 = y.f1) (h2 : x.f2 = y.f2) : x = y := by cases x; cases y; simp_all
def okV (x : S38) : Bool :=
  if x.f0 = 0 then decide (x.f1 = 0) && decide (x.f2 = (⟨#[]⟩ : ByteArray))
  else if x.f0 = 1 then decide (-4294967296 ≤ x.f1 ∧ x.f1 ≤ 4294967296) && decide (x.f2 = (⟨#[]⟩ : ByteArray))
  else if x.f0 = 2 then decide (x.f1 = 0) && decide (x.f2.size ≤ 32)
  else false
def clV (x : S38) : S38 := if okV x then x else z38
theorem beq_empty (a : ByteArray) : (a.toList == ([] : List UInt8)) = decide (a = (⟨#[]⟩ : ByteArray)) := by
  rw [Bool.eq_iff_iff, beq_iff_eq, decide_eq_true_eq]; exact emptyBytes_iff a
theorem value_Valid_eq (a b : Int) (c : ByteArray) : value_Valid.f a b c = some (okV ⟨a, b, c⟩) := by
  unfold value_Valid.f value_inRange.f okV
  simp only [beq_empty]
  by_cases h0 : a = 0
  · simp only [if_pos h0]
    by_cases h1 : b = 0 <;> simp [h1]
  · simp only [if_neg h0]
    by_cases h1 : a = 1
    · simp only [if_pos h1]
      by_cases h2 : b ≥ -4294967296
      · rw [if_pos h2]; simp only [Option.bind_some, decide_eq_true_eq]
        by_cases h3 : b ≤ 4294967296
        · rw [if_pos h3]; simp [h3]; omega
        · rw [if_neg h3]; simp [h3]
      · rw [if_neg h2]; simp; omega
    · simp only [if_neg h1]
      by_cases h2 : a = 2
      · simp only [if_pos h2]
        by_cases h3 : b = 0
        · simp [h3]; omega
        · simp [h3]
      · simp [h2]
theorem ref01_Valid_eq (a b : Int) (c : ByteArray) : erasureref01_Valid.f a b c = some (okV ⟨a, b, c⟩) := by
  rw [← value_Valid_eq]
  unfold erasureref01_Valid.f value_Valid.f value_inRange.f
  by_cases h0 : a = 0
  · simp only [if_pos h0]
  · simp only [if_neg h0]
    by_cases h1 : a = 1
    · simp only [if_pos h1]
      by_cases h2 : b ≥ -4294967296
      · simp only [if_pos h2, Option.bind_some, decide_eq_true_eq]
      · simp only [if_neg h2, Option.bind_some, Bool.false_eq_true, if_false]
    · simp only [if_neg h1]
theorem value_Clean_eq (x : S38) : value_Clean.f x.f0 x.f1 x.f2 = some ((clV x).f0, (clV x).f1, (clV x).f2) := by
  unfold value_Clean.f clV
  rw [value_Valid_eq, Option.bind_some]
  by_cases h : okV x = true
  · rw [if_pos h, if_pos h]
  · rw [if_neg h, if_neg h]; rfl
theorem ref01_Clean_eq (x : S38) : erasureref01_Clean.f x.f0 x.f1 x.f2 = some ((clV x).f0, (clV x).f1, (clV x).f2) := by
  unfold erasureref01_Clean.f clV
  rw [ref01_Valid_eq, Option.bind_some]
  by_cases h : okV x = true
  · rw [if_pos h, if_pos h]
  · rw [if_neg h, if_neg h]; rfl
theorem okV_z : okV z38 = true := by decide +kernel
theorem okV_cl (x : S38) : okV (clV x) = true := by
  unfold clV
  by_cases h : okV x = true
  · rw [if_pos h]; exact h
  · rw [if_neg h]; exact okV_z
theorem clV_ok {x : S38} (h : okV x = true) : clV x = x := if_pos h
def cmpI (a b : Int) : Int := if a < b then -1 else if b < a then 1 else 0
def cmpB (a b : ByteArray) : Int := if a.toList < b.toList then -1 else if b.toList < a.toList then 1 else 0
def cmpC (a b : S38) : Int := if a.f0 ≠ b.f0 then cmpI a.f0 b.f0 else if a.f0 = 1 then cmpI a.f1 b.f1 else cmpB a.f2 b.f2
def cmpV (x y : S38) : Int := cmpC (clV x) (clV y)
theorem cmp_int_eq (a b : Int) : cmp_Compare_int.f a b = some (cmpI a b) := by
  unfold cmp_Compare_int.f cmp_isNaN_int.f cmpI
  simp only [Option.bind_some, bne_self_eq_false, Bool.false_eq_true, if_false, GT.gt]
  by_cases h : a < b
  · rw [if_pos h, if_pos h]
  · rw [if_neg h, if_neg h]
    by_cases h2 : b < a
    · rw [if_pos h2, if_pos h2]
    · rw [if_neg h2, if_neg h2]
theorem cmp_int64_eq (a b : Int) : cmp_Compare_int64.f a b = some (cmpI a b) := by
  unfold cmp_Compare_int64.f cmp_isNaN_int64.f cmpI
  simp only [Option.bind_some, bne_self_eq_false, Bool.false_eq_true, if_false, GT.gt]
  by_cases h : a < b
  · rw [if_pos h, if_pos h]
  · rw [if_neg h, if_neg h]
    by_cases h2 : b < a
    · rw [if_pos h2, if_pos h2]
    · rw [if_neg h2, if_neg h2]
theorem cmp_string_eq (a b : ByteArray) : cmp_Compare_string.f a b = some (cmpB a b) := by
  unfold cmp_Compare_string.f cmp_isNaN_string.f cmpB
  simp only [Option.bind_some, bne_self_eq_false, Bool.false_eq_true, if_false, YtjhnpaenhdbhpaaHp.bytesLess_eq, decide_eq_true_eq]
  by_cases h : a.toList < b.toList
  · rw [if_pos h, if_pos h]
  · rw [if_neg h, if_neg h]
    by_cases h2 : b.toList < a.toList
    · rw [if_pos h2, if_pos h2]
    · rw [if_neg h2, if_neg h2]
theorem value_Compare_eq (x y : S38) : value_Compare.f x.f0 x.f1 x.f2 y.f0 y.f1 y.f2 = some (cmpV x y) := by
  unfold value_Compare.f cmpV cmpC
  rw [value_Clean_eq, value_Clean_eq]
  simp only [Option.bind_some, cmp_int_eq, cmp_int64_eq, cmp_string_eq, ne_eq, ite_not]
  by_cases h : (clV x).f0 = (clV y).f0
  · rw [if_pos h, if_pos h]
    by_cases h1 : (clV x).f0 = 1
    · rw [if_pos h1, if_pos h1]
    · rw [if_neg h1, if_neg h1]
  · rw [if_neg h, if_neg h]
theorem ok_cases {x : S38} (h : okV x = true) : (x.f0 = 0 ∧ x.f1 = 0 ∧ x.f2 = (⟨#[]⟩ : ByteArray)) ∨ (x.f0 = 1 ∧ x.f2 = (⟨#[]⟩ : ByteArray)) ∨ (x.f0 = 2 ∧ x.f1 = 0) := by
  unfold okV at h
  by_cases h0 : x.f0 = 0
  · rw [if_pos h0] at h; simp at h; exact .inl ⟨h0, h.1, h.2⟩
  · rw [if_neg h0] at h
    by_cases h1 : x.f0 = 1
    · rw [if_pos h1] at h; simp at h; exact .inr (.inl ⟨h1, h.2⟩)
    · rw [if_neg h1] at h
      by_cases h2 : x.f0 = 2
      · rw [if_pos h2] at h; simp at h; exact .inr (.inr ⟨h2, h.1⟩)
      · rw [if_neg h2] at h; cases h
theorem cmpI_zero {a b : Int} : cmpI a b = 0 ↔ a = b := by unfold cmpI; split <;> (try split) <;> omega
theorem cmpI_neg {a b : Int} : cmpI a b < 0 ↔ a < b := by unfold cmpI; split <;> (try split) <;> omega
theorem listlt_tri (a b : List UInt8) : a < b ∨ a = b ∨ b < a := Std.lt_trichotomy a b
theorem cmpB_zero {a b : ByteArray} : cmpB a b = 0 ↔ a = b := by
  unfold cmpB
  by_cases h : a.toList < b.toList
  · rw [if_pos h]; exact ⟨fun e => by omega, fun e => by subst e; exact absurd h (List.lt_irrefl _)⟩
  · rw [if_neg h]
    by_cases h2 : b.toList < a.toList
    · rw [if_pos h2]; exact ⟨fun e => by omega, fun e => by subst e; exact absurd h2 (List.lt_irrefl _)⟩
    · rw [if_neg h2]
      exact ⟨fun _ => by rcases listlt_tri a.toList b.toList with h3 | h3 | h3
                         · exact absurd h3 h
                         · exact bytes_ext h3
                         · exact absurd h3 h2, fun _ => rfl⟩
theorem cmpB_neg {a b : ByteArray} : cmpB a b < 0 ↔ a.toList < b.toList := by
  unfold cmpB
  by_cases h : a.toList < b.toList
  · rw [if_pos h]; exact ⟨fun _ => h, fun _ => by omega⟩
  · rw [if_neg h]; exact ⟨fun e => by split at e <;> omega, fun e => absurd e h⟩
theorem cmpC_zero {a b : S38} (ha : okV a = true) (hb : okV b = true) : cmpC a b = 0 ↔ a = b := by
  unfold cmpC
  by_cases h : a.f0 = b.f0
  · simp only [ne_eq, h, not_true, if_false]
    rcases ok_cases ha with ⟨a0, a1, a2⟩ | ⟨a0, a2⟩ | ⟨a0, a1⟩ <;> rcases ok_cases hb with ⟨b0, b1, b2⟩ | ⟨b0, b2⟩ | ⟨b0, b1⟩ <;> (try (rw [a0, b0] at h; omega))
    · rw [if_neg (by omega), cmpB_zero]; exact ⟨fun e => V_ext h (by omega) e, fun e => by rw [e]⟩
    · rw [if_pos b0, cmpI_zero]; exact ⟨fun e => V_ext h e (a2.trans b2.symm), fun e => by rw [e]⟩
    · rw [if_neg (by omega), cmpB_zero]; exact ⟨fun e => V_ext h (by omega) e, fun e => by rw [e]⟩
  · rw [if_pos h, cmpI_zero]; exact ⟨fun e => absurd e h, fun e => absurd (by rw [e]) h⟩
theorem cmpC_neg {a b : S38} (ha : okV a = true) (hb : okV b = true) : cmpC a b < 0 ↔ (a.f0 < b.f0 ∨ (a.f0 = b.f0 ∧ (a.f1 < b.f1 ∨ a.f2.toList < b.f2.toList))) := by
  unfold cmpC
  by_cases h : a.f0 = b.f0
  · simp only [ne_eq, h, not_true, if_false, Int.lt_irrefl, false_or, true_and]
    rcases ok_cases ha with ⟨a0, a1, a2⟩ | ⟨a0, a2⟩ | ⟨a0, a1⟩ <;> rcases ok_cases hb with ⟨b0, b1, b2⟩ | ⟨b0, b2⟩ | ⟨b0, b1⟩ <;> (try (rw [a0, b0] at h; omega))
    · rw [if_neg (by omega), cmpB_neg, a1, b1]; simp
    · rw [if_pos b0, cmpI_neg, a2, b2]; exact ⟨.inl, fun e => e.elim id (fun e => absurd e (List.lt_irrefl _))⟩
    · rw [if_neg (by omega), cmpB_neg, a1, b1]; simp
  · rw [if_pos h, cmpI_neg]; exact ⟨.inl, fun e => e.elim id (fun e => absurd e.1 h)⟩
theorem ref01_Compare_eq (x y : S38) : erasureref01_Compare.f x.f0 x.f1 x.f2 y.f0 y.f1 y.f2 = some (cmpV x y) := by
  have hx := okV_cl x
  have hy := okV_cl y
  have hz := cmpC_zero hx hy
  have hn := cmpC_neg hx hy
  have hr : cmpC (clV x) (clV y) = -1 ∨ cmpC (clV x) (clV y) = 0 ∨ cmpC (clV x) (clV y) = 1 := by
    unfold cmpC cmpI cmpB; repeat' split
    all_goals simp
  unfold cmpV erasureref01_Compare.f
  rw [ref01_Clean_eq, ref01_Clean_eq]
  simp only [Option.bind_some]
  generalize clV x = a at *
  generalize clV y = b at *
  by_cases h : a = b
  · rw [hz.2 h]; subst h; simp
  · have h0 : cmpC a b ≠ 0 := fun e => h (hz.1 e)
    have hne : ¬ ((a.f0 == b.f0 && (a.f1 == b.f1 && a.f2.toList == b.f2.toList)) = true) := fun e => h (by
      simp only [Bool.and_eq_true, beq_iff_eq] at e
      exact V_ext e.1 e.2.1 (bytes_ext e.2.2))
    by_cases hlt : cmpC a b < 0
    · have e1 : cmpC a b = -1 := by omega
      have hd := hn.1 hlt
      simp only [hne, YtjhnpaenhdbhpaaHp.bytesLess_eq, decide_eq_true_eq, e1]
      repeat' split
      all_goals first | rfl | (exfalso; simp_all; try omega)
    · have e1 : cmpC a b = 1 := by omega
      have hd : ¬ _ := fun e => hlt (hn.2 e)
      simp only [not_or, not_and] at hd
      simp only [hne, YtjhnpaenhdbhpaaHp.bytesLess_eq, decide_eq_true_eq, e1]
      repeat' split
      all_goals first | rfl | (exfalso; simp_all; try omega)
end Go.Proofs.Ytjhnpaenhdbhpaa.Q
namespace Go.Proofs.Ytjhnpaenhdbhpaa.Q
open Go.RowKit Go.Proofs.Ytjhnpaenhdbhpaa.P Go.Proofs.YtjhnpaenhdbhpaaW.PrintWords Go.Proofs.YtjhnpaenhdbhpaaW.PrintLast
set_option linter.unusedVariables false
set_option linter.unusedSimpArgs false
theorem dV {l : List S38} {i : Nat} (h : i < l.length) : l.drop i = rd_T38 l (i : Int) :: l.drop (i + 1) := drop_cons z38 h
theorem dE {l : List S41} {i : Nat} (h : i < l.length) : l.drop i = rd_T41 l (i : Int) :: l.drop (i + 1) := drop_cons z41 h
def cmpR : List S38 → List S38 → Int
  | [], [] => 0
  | [], _ :: _ => -1
  | _ :: _, [] => 1
  | x :: xs, y :: ys => if cmpV x y = 0 then cmpR xs ys else cmpV x y
theorem value_CompareRows_eq : ∀ (xs ys : List S38), value_CompareRows.f xs ys = some (cmpR xs ys)
  | [], [] => rfl
  | [], _ :: _ => rfl
  | _ :: _, [] => rfl
  | x :: xs, y :: ys => by
    unfold value_CompareRows.f cmpR
    rw [value_Compare_eq, Option.bind_some, value_CompareRows_eq xs ys]
    split <;> rfl
theorem ref01_CompareRows_ev (xs ys : List S38) (hx : xs.length ≤ 9223372036854775807) : Ev (fun k => erasureref01_CompareRows.f k xs ys) (cmpR xs ys) := by
  unfold erasureref01_CompareRows.f
  have hend : ∀ i, i ≤ xs.length → i ≤ ys.length → (i < xs.length → ¬ i < ys.length) → Ev (fun k => erasureref01_CompareRows.j1 k xs ys (i : Int) false) (cmpR (xs.drop i) (ys.drop i)) := by
    intro i hi hiy hn
    refine Ev.succ ?_
    simp only [erasureref01_CompareRows.j1, Bool.false_eq_true, if_false]
    by_cases h : i < xs.length
    · rw [dV h, List.drop_eq_nil_of_le (show ys.length ≤ i by have := hn h; omega)]
      refine Ev.ite_neg (by omega) (Ev.ite_pos (by omega) ?_)
      exact Ev.now _
    · obtain rfl : i = xs.length := by omega
      rw [List.drop_length]
      by_cases h2 : xs.length < ys.length
      · rw [dV h2]; exact Ev.ite_pos (by omega) (Ev.now _)
      · rw [List.drop_eq_nil_of_le (show ys.length ≤ xs.length by omega)]
        exact Ev.ite_neg (by omega) (Ev.ite_neg (by omega) (Ev.now _))
  refine (loop_down (P := fun i => i ≤ ys.length → Ev (fun k => erasureref01_CompareRows.l0 k xs ys (i : Int)) (cmpR (xs.drop i) (ys.drop i))) xs.length ?_ ?_ 0 (by omega)) (by omega)
  · intro _
    refine Ev.succ ?_
    simp only [erasureref01_CompareRows.l0]
    exact Ev.ite_neg (by omega) (hend _ (by omega) ‹_› (by omega))
  · intro i hi ih hy
    refine Ev.succ ?_
    simp only [erasureref01_CompareRows.l0]
    refine Ev.ite_pos (by omega) ?_
    by_cases h : i < ys.length
    · have hd : decide ((i : Int) < (ys.length : Int)) = true := decide_eq_true (by omega)
      rw [hd]
      refine Ev.succ ?_
      simp only [erasureref01_CompareRows.j1, if_true]
      refine Ev.ite_pos (by omega) (Ev.ite_pos (by omega) (Ev.ite_pos (by omega) (Ev.bindc (ref01_Compare_eq _ _) ?_)))
      rw [dV hi, dV h, wrn hi hx]
      unfold cmpR
      by_cases hc : cmpV (rd_T38 xs (i : Int)) (rd_T38 ys (i : Int)) = 0
      · rw [if_pos hc]; exact Ev.ite_pos hc (ih (by omega))
      · rw [if_neg hc]; exact Ev.ite_neg hc (Ev.now _)
    · have hd : decide ((i : Int) < (ys.length : Int)) = false := decide_eq_false (by omega)
      rw [hd]
      exact hend i (by omega) hy (fun _ => h)
def okR (l : List S38) : Bool := l.all okV && decide (l.length ≤ 16)
theorem value_ValidRow_ev (l : List S38) (hl : l.length ≤ 9223372036854775807) : Ev (fun k => value_ValidRow.f k l) (okR l) := by
  unfold value_ValidRow.f
  refine (loop_down (P := fun i => Ev (fun k => value_ValidRow.l0 k l l (l.length : Int) (i : Int)) ((l.drop i).all okV && decide (l.length ≤ 16))) l.length ?_ ?_ 0 (by omega))
  · refine Ev.succ ?_
    simp only [value_ValidRow.l0]
    rw [List.drop_length]
    refine Ev.ite_neg (by omega) (Ev.done ?_)
    simp; omega
  · intro i hi ih
    refine Ev.succ ?_
    simp only [value_ValidRow.l0, value_Valid_eq, Option.bind_some]
    refine Ev.ite_pos (by omega) (Ev.ite_pos (by omega) (Ev.ite_pos (by omega) ?_))
    rw [dV hi, wrn hi hl, List.all_cons]
    show Ev (fun k => if okV (rd_T38 l (i : Int)) = true then _ else _) _
    cases hc : okV (rd_T38 l (i : Int)) with
    | true => exact Ev.ite_pos rfl ih
    | false => exact Ev.ite_neg (by simp) (Ev.now _)
theorem ref01_ValidRow_ev (l : List S38) : Ev (fun k => erasureref01_ValidRow.f k l) (okR l) := by
  unfold erasureref01_ValidRow.f okR
  by_cases hl : l.length ≤ 16
  · refine Ev.ite_neg (by omega) ?_
    rw [decide_eq_true hl, Bool.and_true]
    refine (loop_down (P := fun i => Ev (fun k => erasureref01_ValidRow.l0 k l (i : Int)) ((l.drop i).all okV)) l.length ?_ ?_ 0 (by omega))
    · refine Ev.succ ?_
      simp only [erasureref01_ValidRow.l0]
      rw [List.drop_length]
      exact Ev.ite_neg (by omega) (Ev.now _)
    · intro i hi ih
      refine Ev.succ ?_
      simp only [erasureref01_ValidRow.l0, ref01_Valid_eq, Option.bind_some]
      refine Ev.ite_pos (by omega) (Ev.ite_pos (by omega) ?_)
      rw [dV hi, wrn hi (by omega), List.all_cons]
      show Ev (fun k => if okV (rd_T38 l (i : Int)) = true then _ else _) _
      cases hc : okV (rd_T38 l (i : Int)) with
      | true => exact Ev.ite_pos rfl ih
      | false => exact Ev.ite_neg (by simp) (Ev.now _)
  · rw [decide_eq_false hl, Bool.and_false]
    exact Ev.ite_pos (by omega) (Ev.now _)
def okE (e : S41) : Bool := okR e.f0 && decide (-262144 ≤ e.f1 ∧ e.f1 ≤ 262144)
theorem countFits_eq (n : Int) : bag_countFits.f n = some (decide (-262144 ≤ n ∧ n ≤ 262144)) := by
  unfold bag_countFits.f
  by_cases h : n ≥ -262144
  · rw [if_pos h]; simp; omega
  · rw [if_neg h]; simp; omega
theorem ref06_countOK_eq (n : Int) : erasureref06_countOK.f n = some (decide (-262144 ≤ n ∧ n ≤ 262144)) := by
  unfold erasureref06_countOK.f
  by_cases h : n ≥ -262144
  · rw [if_pos h]; simp; omega
  · rw [if_neg h]; simp; omega
theorem entryFits_ev (e : S41) (hl : e.f0.length ≤ 9223372036854775807) : Ev (fun k => bag_entryFits.f k e.f0 e.f1) (okE e) := by
  unfold bag_entryFits.f okE
  refine Ev.bind (value_ValidRow_ev _ hl) ?_
  cases hc : okR e.f0 with
  | true => simp only [if_true, countFits_eq, Option.bind_some, Bool.true_and]; exact Ev.now _
  | false => simp only [Bool.false_eq_true, if_false, Bool.false_and]; exact Ev.now _
def bvF : Option S41 → List S41 → Bool
  | _, [] => true
  | none, e :: l => okE e && !decide (e.f1 = 0) && bvF (some e) l
  | some p, e :: l => okE e && !decide (e.f1 = 0) && decide (cmpR p.f0 e.f0 < 0) && bvF (some e) l
def bagV (l : List S41) : Bool := bvF none l && decide (l.length ≤ 4096)
def prevE (l : List S41) (i : Nat) : Option S41 := if i = 0 then none else some (rd_T41 l ((i - 1 : Nat) : Int))
def Fin (l : List S41) : Prop := l.length ≤ 9223372036854775807 ∧ ∀ e ∈ l, e.f0.length ≤ 9223372036854775807
theorem Fin.at {l : List S41} (h : Fin l) {i : Nat} (hi : i < l.length) : (rd_T41 l (i : Int)).f0.length ≤ 9223372036854775807 := by
  refine h.2 _ ?_
  simp [rd_T41, hi]
theorem bag_Valid_ev (l : List S41) (hl : Fin l) : Ev (fun k => bag_Valid.f k l) (bagV l) := by
  unfold bag_Valid.f
  refine (loop_down (P := fun i => Ev (fun k => bag_Valid.l0 k l l (l.length : Int) (i : Int)) (bvF (prevE l i) (l.drop i) && decide (l.length ≤ 4096))) l.length ?_ ?_ 0 (by omega))
  · refine Ev.succ ?_
    simp only [bag_Valid.l0]
    rw [List.drop_length]
    refine Ev.ite_neg (by omega) (Ev.done ?_)
    simp [bvF]; omega
  · intro i hi ih
    have hp : prevE l (i + 1) = some (rd_T41 l (i : Int)) := by simp [prevE]
    rw [hp] at ih
    refine Ev.succ ?_
    simp only [bag_Valid.l0, value_CompareRows_eq, Option.bind_some]
    refine Ev.ite_pos (by omega) (Ev.ite_pos (by omega) (Ev.ite_pos (by omega) (Ev.bind (entryFits_ev _ (hl.at hi)) ?_)))
    rw [dE hi, wrn hi hl.1]
    by_cases h0 : i = 0
    · subst h0
      simp only [prevE, if_true, bvF]
      cases hc : okE (rd_T41 l ((0 : Nat) : Int)) with
      | false => simp only [Bool.false_and]; exact Ev.ite_neg (by simp) (Ev.now _)
      | true =>
        refine Ev.ite_pos rfl ?_
        by_cases hz : (rd_T41 l ((0 : Nat) : Int)).f1 = 0
        · rw [decide_eq_true hz]; exact Ev.ite_pos hz (Ev.now _)
        · rw [decide_eq_false hz]; refine Ev.ite_neg hz (Ev.ite_neg (by omega) ?_); simpa using ih
    · simp only [prevE, if_neg h0, bvF]
      have hl1 := hl.1
      rw [wrp (by omega) (by omega)]
      cases hc : okE (rd_T41 l (i : Int)) with
      | false => simp only [Bool.false_and]; exact Ev.ite_neg (by simp) (Ev.now _)
      | true =>
        refine Ev.ite_pos rfl ?_
        by_cases hz : (rd_T41 l (i : Int)).f1 = 0
        · rw [decide_eq_true hz]; exact Ev.ite_pos hz (Ev.now _)
        · rw [decide_eq_false hz]
          refine Ev.ite_neg hz (Ev.ite_pos (by omega) (Ev.ite_pos (by omega) (Ev.ite_pos (by omega) ?_)))
          by_cases hcmp : cmpR (rd_T41 l ((i - 1 : Nat) : Int)).f0 (rd_T41 l (i : Int)).f0 < 0
          · rw [decide_eq_true hcmp]; exact Ev.ite_neg (by omega) (by simpa using ih)
          · rw [decide_eq_false hcmp]; exact Ev.ite_pos (by omega) (Ev.now _)
theorem ref06_Valid_ev (l : List S41) (hl : Fin l) : Ev (fun k => erasureref06_Valid.f k l) (bagV l) := by
  unfold erasureref06_Valid.f bagV
  by_cases hn : l.length ≤ 4096
  · rw [decide_eq_true hn, Bool.and_true]
    refine Ev.ite_neg (by omega) ?_
    refine (loop_down (P := fun i => Ev (fun k => erasureref06_Valid.l0 k l (i : Int)) (bvF (prevE l i) (l.drop i))) l.length ?_ ?_ 0 (by omega))
    · refine Ev.succ ?_
      simp only [erasureref06_Valid.l0]
      rw [List.drop_length]
      refine Ev.ite_neg (by omega) (Ev.done ?_)
      simp [bvF]
    · intro i hi ih
      have hp : prevE l (i + 1) = some (rd_T41 l (i : Int)) := by simp [prevE]
      rw [hp] at ih
      refine Ev.succ ?_
      simp only [erasureref06_Valid.l0, ref06_countOK_eq, Option.bind_some]
      refine Ev.ite_pos (by omega) (Ev.ite_pos (by omega) (Ev.bind (ref01_ValidRow_ev _) ?_))
      rw [dE hi, wrn hi hl.1]
      by_cases h0 : i = 0
      · subst h0
        simp only [prevE, if_true, bvF, okE]
        cases hc : okR (rd_T41 l ((0 : Nat) : Int)).f0 with
        | false => simp only [Bool.false_and]; exact Ev.ite_neg (by simp) (Ev.now _)
        | true =>
          refine Ev.ite_pos rfl ?_
          by_cases hk : (-262144 ≤ (rd_T41 l ((0 : Nat) : Int)).f1 ∧ (rd_T41 l ((0 : Nat) : Int)).f1 ≤ 262144)
          · rw [decide_eq_true hk]
            refine Ev.ite_pos rfl ?_
            by_cases hz : (rd_T41 l ((0 : Nat) : Int)).f1 = 0
            · rw [decide_eq_true hz]; exact Ev.ite_pos hz (Ev.now _)
            · rw [decide_eq_false hz]; refine Ev.ite_neg hz (Ev.ite_neg (by omega) ?_); simpa using ih
          · rw [decide_eq_false hk]; exact Ev.ite_neg (by simp) (Ev.now _)
      · simp only [prevE, if_neg h0, bvF, okE]
        have hl1 := hl.1
        rw [wrp (by omega) (by omega)]
        cases hc : okR (rd_T41 l (i : Int)).f0 with
        | false => simp only [Bool.false_and]; exact Ev.ite_neg (by simp) (Ev.now _)
        | true =>
          refine Ev.ite_pos rfl ?_
          by_cases hk : (-262144 ≤ (rd_T41 l (i : Int)).f1 ∧ (rd_T41 l (i : Int)).f1 ≤ 262144)
          · rw [decide_eq_true hk]
            refine Ev.ite_pos rfl ?_
            by_cases hz : (rd_T41 l (i : Int)).f1 = 0
            · rw [decide_eq_true hz]; exact Ev.ite_pos hz (Ev.now _)
            · rw [decide_eq_false hz]
              refine Ev.ite_neg hz (Ev.ite_pos (by omega) (Ev.ite_pos (by omega) (Ev.ite_pos (by omega) ?_)))
              refine Ev.bind (ref01_CompareRows_ev _ _ (hl.at (show i - 1 < l.length by omega))) ?_
              by_cases hcmp : cmpR (rd_T41 l ((i - 1 : Nat) : Int)).f0 (rd_T41 l (i : Int)).f0 < 0
              · rw [decide_eq_true hcmp]; exact Ev.ite_neg (by omega) (by simpa using ih)
              · rw [decide_eq_false hcmp]; exact Ev.ite_pos (by omega) (Ev.now _)
          · rw [decide_eq_false hk]; exact Ev.ite_neg (by simp) (Ev.now _)
  · rw [decide_eq_false hn, Bool.and_false]
    exact Ev.ite_pos (by omega) (Ev.now _)
end Go.Proofs.Ytjhnpaenhdbhpaa.Q
namespace Go.Proofs.Ytjhnpaenhdbhpaa.Q
open Go.RowKit Go.Proofs.Ytjhnpaenhdbhpaa.P Go.Proofs.YtjhnpaenhdbhpaaW.PrintWords Go.Proofs.YtjhnpaenhdbhpaaW.PrintLast
set_option linter.unusedVariables false
set_option linter.unusedSimpArgs false
theorem dU {l : List S43} {i : Nat} (h : i < l.length) : l.drop i = rd_T43 l (i : Int) :: l.drop (i + 1) := drop_cons z43 h
theorem awake_ev : Ev (fun k => erasurelaw35_awake.f k) true := Ev.of (fun k => erasurelaw35_awake.mono k) (k := 40) (by decide +kernel)
theorem cleaned_ev (l : List S38) (hl : l.length < 4398046511104) : Ev (fun k => release_cleaned.f k l) (l.map clV) := by
  unfold release_cleaned.f
  have key : ∀ i, i ≤ l.length → ∀ acc : List S38, acc.length = i → Ev (fun k => release_cleaned.l0 k l acc (i : Int)) (acc ++ (l.drop i).map clV) := by
    refine loop_down (P := fun i => ∀ acc : List S38, acc.length = i → Ev (fun k => release_cleaned.l0 k l acc (i : Int)) (acc ++ (l.drop i).map clV)) l.length ?_ ?_
    · intro acc _
      refine Ev.succ ?_
      simp only [release_cleaned.l0]
      rw [List.drop_length]
      exact Ev.ite_neg (by omega) (Ev.done (by simp))
    · intro i hi ih acc ha
      refine Ev.succ ?_
      simp only [release_cleaned.l0, value_Clean_eq, Option.bind_some]
      refine Ev.ite_pos (by omega) (Ev.ite_pos (by omega) (Ev.ite_pos (by omega) ?_))
      rw [dV hi, wrn hi (by omega), List.map_cons]
      have := ih (acc ++ [clV (rd_T38 l (i : Int))]) (by simp [ha])
      simpa using this
  simpa using key 0 (by omega) [] rfl
theorem cleanRow_ev (l : List S38) (hl : l.length < 4398046511104) : Ev (fun k => erasureref26_CleanRow.f k l) (l.map clV) := by
  unfold erasureref26_CleanRow.f
  have key : ∀ i, i ≤ l.length → ∀ acc : List S38, acc.length = i → Ev (fun k => erasureref26_CleanRow.l0 k l acc (i : Int)) (acc ++ (l.drop i).map clV) := by
    refine loop_down (P := fun i => ∀ acc : List S38, acc.length = i → Ev (fun k => erasureref26_CleanRow.l0 k l acc (i : Int)) (acc ++ (l.drop i).map clV)) l.length ?_ ?_
    · intro acc _
      refine Ev.succ ?_
      simp only [erasureref26_CleanRow.l0]
      rw [List.drop_length]
      exact Ev.ite_neg (by omega) (Ev.done (by simp))
    · intro i hi ih acc ha
      refine Ev.succ ?_
      simp only [erasureref26_CleanRow.l0, ref01_Clean_eq, Option.bind_some]
      refine Ev.ite_pos (by omega) (Ev.ite_pos (by omega) (Ev.ite_pos (by omega) ?_))
      rw [dV hi, wrn hi (by omega), List.map_cons]
      have := ih (acc ++ [clV (rd_T38 l (i : Int))]) (by simp [ha])
      simpa using this
  simpa using key 0 (by omega) [] rfl
def pubE (T keys : Int) (e : S41) : Option S43 :=
  if e.f1 = 1 ∧ keys < (e.f0.length : Int) ∧ (rd_T38 e.f0 keys).f0 = 1 ∧ T ≤ (rd_T38 e.f0 keys).f1 ∧ (rd_T38 e.f0 keys).f1 ≤ 4294967296 then
    some ⟨(e.f0.take keys.toNat).map clV, (rd_T38 e.f0 keys).f1 - Int.tmod (rd_T38 e.f0 keys).f1 T⟩ else none
def pubS (T keys : Int) (l : List S41) : List S43 := if T < 1 ∨ keys < 0 ∨ bagV l = false then [] else l.filterMap (pubE T keys)
theorem tmod_rng {n T : Int} (h1 : 1 ≤ T) (h2 : T ≤ n) : 0 ≤ Int.tmod n T ∧ Int.tmod n T < T := ⟨Int.tmod_nonneg _ (by omega), Int.tmod_lt_of_pos _ (by omega)⟩
theorem step_ev (T keys : Int) (hT : 1 ≤ T) (hk : 0 ≤ keys) (e : S41) (ys : List S43) (he : e.f0.length < 4398046511104) (hy : ys.length < 4398046511104) :
    Ev (fun k => release_Publish.step k keys T e ys) (ys ++ (pubE T keys e).toList) := by
  unfold release_Publish.step pubE
  by_cases c1 : e.f1 = 1
  · refine Ev.ite_pos c1 ?_
    by_cases c2 : keys < (e.f0.length : Int)
    · refine Ev.ite_pos c2 (Ev.ite_pos hk ?_)
      by_cases c3 : (rd_T38 e.f0 keys).f0 = 1
      · refine Ev.ite_pos c3 ?_
        by_cases c4 : (rd_T38 e.f0 keys).f1 < T
        · refine Ev.ite_pos c4 (Ev.done ?_)
          rw [if_neg (fun h => by omega)]; simp
        · refine Ev.ite_neg c4 ?_
          by_cases c5 : (rd_T38 e.f0 keys).f1 > 4294967296
          · refine Ev.ite_pos c5 (Ev.done ?_)
            rw [if_neg (fun h => by omega)]; simp
          · refine Ev.ite_neg c5 (Ev.bind (cleaned_ev _ (by rw [List.length_take]; omega)) (Ev.ite_neg (by omega) (Ev.ite_pos hy (Ev.done ?_))))
            have hr := tmod_rng hT (show T ≤ (rd_T38 e.f0 keys).f1 by omega)
            rw [if_pos ⟨c1, c2, c3, by omega, by omega⟩, wr (by omega)]
            rfl
      · refine Ev.ite_neg c3 (Ev.done ?_)
        rw [if_neg (fun h => c3 h.2.2.1)]; simp
    · refine Ev.ite_neg c2 (Ev.done ?_)
      rw [if_neg (fun h => c2 h.2.1)]; simp
  · refine Ev.ite_neg c1 (Ev.done ?_)
    rw [if_neg (fun h => c1 h.1)]; simp
theorem go_ev (T keys : Int) (hT : 1 ≤ T) (hk : 0 ≤ keys) : ∀ (l : List S41) (ys : List S43), (∀ e ∈ l, e.f0.length < 4398046511104) → ys.length + l.length < 4398046511104 →
    Ev (fun k => release_Publish.go k keys T l ys) (ys ++ l.filterMap (pubE T keys))
  | [], ys, _, _ => by simp only [release_Publish.go]; exact Ev.done (by simp)
  | e :: l, ys, h1, h2 => by
    simp only [release_Publish.go]
    simp only [List.length_cons] at h2
    refine Ev.bind (step_ev T keys hT hk e ys (h1 e (by simp)) (by omega)) ?_
    have h3 : (ys ++ (pubE T keys e).toList).length + l.length < 4398046511104 := by
      cases pubE T keys e <;> simp <;> omega
    have := go_ev T keys hT hk l (ys ++ (pubE T keys e).toList) (fun x hx => h1 x (by simp [hx])) h3
    cases hp : pubE T keys e with
    | none => rw [hp] at this; rw [List.filterMap_cons_none hp]; simpa using this
    | some u => rw [hp] at this; rw [List.filterMap_cons_some hp]; simpa using this
theorem bvF_mem : ∀ (l : List S41) (p : Option S41), bvF p l = true → ∀ e ∈ l, okE e = true
  | [], _, _, e, he => by cases he
  | x :: l, p, h, e, he => by
    have h1 : okE x = true ∧ bvF (some x) l = true := by
      cases p <;> simp only [bvF, Bool.and_eq_true] at h
      · exact ⟨h.1.1, h.2⟩
      · exact ⟨h.1.1.1, h.2⟩
    rcases List.mem_cons.1 he with rfl | he
    · exact h1.1
    · exact bvF_mem l _ h1.2 e he
theorem bagV_mem {l : List S41} (h : bagV l = true) : ∀ e ∈ l, okE e = true := by
  simp only [bagV, Bool.and_eq_true] at h
  exact bvF_mem l none h.1
theorem bagV_len {l : List S41} (h : bagV l = true) : l.length ≤ 4096 := by
  simp only [bagV, Bool.and_eq_true, decide_eq_true_eq] at h
  exact h.2
theorem okE_len {e : S41} (h : okE e = true) : e.f0.length ≤ 16 := by
  simp only [okE, okR, Bool.and_eq_true, decide_eq_true_eq] at h
  exact h.1.2
theorem okE_row {e : S41} (h : okE e = true) : ∀ v ∈ e.f0, okV v = true := by
  simp only [okE, okR, Bool.and_eq_true, List.all_eq_true] at h
  exact h.1.1
theorem Publish_ev (a b : ByteArray) (T keys : Int) (l : List S41) (hl : Fin l) : Ev (fun k => release_Publish.f k a b T keys l) (pubS T keys l) := by
  unfold release_Publish.f pubS
  by_cases c1 : T < 1
  · rw [if_pos (.inl c1)]; exact Ev.ite_pos c1 (Ev.now _)
  · refine Ev.ite_neg c1 ?_
    by_cases c2 : keys < 0
    · rw [if_pos (.inr (.inl c2))]; exact Ev.ite_pos c2 (Ev.now _)
    · refine Ev.ite_neg c2 (Ev.bind (bag_Valid_ev l hl) ?_)
      cases hb : bagV l with
      | false => simp only [Bool.false_eq_true, if_false]; rw [if_pos (by simp)]; exact Ev.now _
      | true =>
        simp only [if_true]
        rw [if_neg (by simp; omega)]
        have := go_ev T keys (by omega) (by omega) l [] (fun e he => by have := okE_len (bagV_mem hb e he); omega) (by have := bagV_len hb; simp; omega)
        simpa using this
theorem rdV_mem {r : List S38} {i : Int} (h0 : 0 ≤ i) (h : i < (r.length : Int)) : rd_T38 r i ∈ r := by
  have hlt : i.toNat < r.length := by omega
  unfold rd_T38
  rw [List.getD_eq_getElem?_getD, List.getElem?_eq_getElem hlt]
  exact List.getElem_mem hlt
theorem refPublish_ev (a b : ByteArray) (T keys : Int) (l : List S41) (hl : Fin l) : Ev (fun k => erasureref35_Publish.f k a b T keys l) (pubS T keys l) := by
  unfold erasureref35_Publish.f pubS
  have hj : Ev (fun k => erasureref35_Publish.j0 k keys l true a b T) [] := by
    refine Ev.succ ?_
    simp only [erasureref35_Publish.j0, if_true]
    exact Ev.now _
  by_cases c1 : T < 1
  · rw [if_pos (.inl c1)]; exact Ev.ite_pos c1 hj
  · refine Ev.ite_neg c1 ?_
    by_cases c2 : keys < 0
    · rw [if_pos (.inr (.inl c2))]; exact Ev.ite_pos c2 hj
    · refine Ev.ite_neg c2 (Ev.bind (ref06_Valid_ev l hl) ?_)
      cases hb : bagV l with
      | false => simp only [Bool.not_false]; rw [if_pos (by simp)]; exact hj
      | true =>
        simp only [Bool.not_true]
        rw [if_neg (by simp; omega)]
        refine Ev.succ ?_
        simp only [erasureref35_Publish.j0, Bool.false_eq_true, if_false]
        have hmem := bagV_mem hb
        have hlen := bagV_len hb
        have key : ∀ i, i ≤ l.length → ∀ acc : List S43, acc.length ≤ i → Ev (fun k => erasureref35_Publish.l0 k keys l acc (i : Int) a b T) (acc ++ (l.drop i).filterMap (pubE T keys)) := by
          refine loop_down (P := fun i => ∀ acc : List S43, acc.length ≤ i → Ev (fun k => erasureref35_Publish.l0 k keys l acc (i : Int) a b T) (acc ++ (l.drop i).filterMap (pubE T keys))) l.length ?_ ?_
          · intro acc _
            refine Ev.succ ?_
            simp only [erasureref35_Publish.l0]
            rw [List.drop_length]
            exact Ev.ite_neg (by omega) (Ev.done (by simp))
          · intro i hi ih acc ha
            have he := hmem (rd_T41 l (i : Int)) (by simp [rd_T41, hi])
            have hr16 := okE_len he
            have hskip : pubE T keys (rd_T41 l (i : Int)) = none → Ev (fun k => erasureref35_Publish.j2 k keys l acc (i : Int) (rd_T41 l (i : Int)).f0 true a b T) (acc ++ (l.drop i).filterMap (pubE T keys)) := by
              intro hp
              refine Ev.succ ?_
              simp only [erasureref35_Publish.j2, if_true]
              rw [dE hi, wrn hi hl.1, List.filterMap_cons_none hp]
              exact ih acc (by omega)
            refine Ev.succ ?_
            simp only [erasureref35_Publish.l0]
            refine Ev.ite_pos (by omega) (Ev.ite_pos (by omega) ?_)
            by_cases d1 : (rd_T41 l (i : Int)).f1 = 1
            · refine Ev.ite_pos d1 ?_
              by_cases d2 : keys ≥ ((rd_T41 l (i : Int)).f0.length : Int)
              · exact Ev.ite_pos d2 (hskip (by unfold pubE; rw [if_neg (fun h => by omega)]))
              · refine Ev.ite_neg d2 (Ev.ite_pos (by omega) (Ev.ite_pos (by omega) ?_))
                have hv := okE_row he _ (rdV_mem (show 0 ≤ keys by omega) (show keys < ((rd_T41 l (i : Int)).f0.length : Int) by omega))
                by_cases d3 : (rd_T38 (rd_T41 l (i : Int)).f0 keys).f0 = 1
                · have e3 : ((rd_T38 (rd_T41 l (i : Int)).f0 keys).f0 != 1) = false := by rw [bne_eq_false_iff_eq]; exact d3
                  rw [e3]
                  have hrange : (rd_T38 (rd_T41 l (i : Int)).f0 keys).f1 ≤ 4294967296 := by
                    unfold okV at hv
                    rw [if_neg (by omega), if_pos d3] at hv
                    simp at hv
                    omega
                  refine Ev.succ ?_
                  simp only [erasureref35_Publish.j2, Bool.false_eq_true, if_false]
                  refine Ev.ite_pos (by omega) (Ev.ite_pos (by omega) ?_)
                  rw [dE hi, wrn hi hl.1]
                  by_cases d4 : (rd_T38 (rd_T41 l (i : Int)).f0 keys).f1 ≥ T
                  · have hp : pubE T keys (rd_T41 l (i : Int)) = some ⟨((rd_T41 l (i : Int)).f0.take keys.toNat).map clV, (rd_T38 (rd_T41 l (i : Int)).f0 keys).f1 - Int.tmod (rd_T38 (rd_T41 l (i : Int)).f0 keys).f1 T⟩ := by
                      unfold pubE; rw [if_pos ⟨d1, by omega, d3, by omega, hrange⟩]
                    refine Ev.ite_pos d4 (Ev.ite_pos (by omega) (Ev.bind (cleanRow_ev _ (by rw [List.length_take]; omega)) (Ev.ite_neg (by omega) (Ev.ite_pos (by omega) ?_))))
                    have hr := tmod_rng (show 1 ≤ T by omega) (show T ≤ (rd_T38 (rd_T41 l (i : Int)).f0 keys).f1 by omega)
                    rw [wr (by omega), List.filterMap_cons_some hp]
                    have := ih (acc ++ [⟨((rd_T41 l (i : Int)).f0.take keys.toNat).map clV, (rd_T38 (rd_T41 l (i : Int)).f0 keys).f1 - Int.tmod (rd_T38 (rd_T41 l (i : Int)).f0 keys).f1 T⟩]) (by simp; omega)
                    simpa using this
                  · have hp : pubE T keys (rd_T41 l (i : Int)) = none := by unfold pubE; rw [if_neg (fun h => by omega)]
                    rw [List.filterMap_cons_none hp]
                    exact Ev.ite_neg d4 (ih acc (by omega))
                · have e3 : ((rd_T38 (rd_T41 l (i : Int)).f0 keys).f0 != 1) = true := by rw [bne_iff_ne]; exact d3
                  rw [e3]
                  exact hskip (by unfold pubE; rw [if_neg (fun h => d3 h.2.2.1)])
            · exact Ev.ite_neg d1 (hskip (by unfold pubE; rw [if_neg (fun h => d1 h.1)]))
        simpa using key 0 (by omega) [] (by simp)
end Go.Proofs.Ytjhnpaenhdbhpaa.Q
namespace Go.Proofs.Ytjhnpaenhdbhpaa.Q
open Go.RowKit Go.Proofs.Ytjhnpaenhdbhpaa.P Go.Proofs.YtjhnpaenhdbhpaaW.PrintWords Go.Proofs.YtjhnpaenhdbhpaaW.PrintLast
set_option linter.unusedVariables false
set_option linter.unusedSimpArgs false
def sumE (x y : S41) : List S41 := if wrap64 (x.f1 + y.f1) = 0 then [] else [⟨x.f0, wrap64 (x.f1 + y.f1)⟩]
def mergeS : List S41 → List S41 → List S41
  | [], b => b
  | x :: a, [] => x :: a
  | x :: a, y :: b =>
    if cmpR x.f0 y.f0 < 0 then x :: mergeS a (y :: b)
    else if cmpR x.f0 y.f0 > 0 then y :: mergeS (x :: a) b
    else sumE x y ++ mergeS a b
termination_by a b => a.length + b.length
theorem mergeS_nil (a : List S41) : mergeS a [] = a := by cases a <;> simp [mergeS]
theorem sumE_len (x y : S41) : (sumE x y).length ≤ 1 := by unfold sumE; split <;> simp
theorem mergeS_len : ∀ (a b : List S41), (mergeS a b).length ≤ a.length + b.length
  | [], b => by simp [mergeS]
  | x :: a, [] => by simp [mergeS]
  | x :: a, y :: b => by
    unfold mergeS
    split
    · have := mergeS_len a (y :: b); simp at this ⊢; omega
    · split
      · have := mergeS_len (x :: a) b; simp at this ⊢; omega
      · have := mergeS_len a b; have := sumE_len x y; simp at this ⊢; omega
termination_by a b => a.length + b.length
theorem mergeS_row : ∀ (a b : List S41) (e : S41), e ∈ mergeS a b → ∃ z, (z ∈ a ∨ z ∈ b) ∧ e.f0 = z.f0
  | [], b, e, h => ⟨e, .inr (by simpa [mergeS] using h), rfl⟩
  | x :: a, [], e, h => ⟨e, .inl (by simpa [mergeS] using h), rfl⟩
  | x :: a, y :: b, e, h => by
    unfold mergeS at h
    split at h
    · rcases List.mem_cons.1 h with rfl | h
      · exact ⟨_, .inl (by simp), rfl⟩
      · obtain ⟨z, hz, e1⟩ := mergeS_row a (y :: b) e h
        exact ⟨z, hz.imp (fun q => by simp [q]) id, e1⟩
    · split at h
      · rcases List.mem_cons.1 h with rfl | h
        · exact ⟨_, .inr (by simp), rfl⟩
        · obtain ⟨z, hz, e1⟩ := mergeS_row (x :: a) b e h
          exact ⟨z, hz.imp id (fun q => by simp [q]), e1⟩
      · rcases List.mem_append.1 h with h | h
        · unfold sumE at h
          split at h
          · cases h
          · rw [List.mem_singleton.1 h]; exact ⟨x, .inl (by simp), rfl⟩
        · obtain ⟨z, hz, e1⟩ := mergeS_row a b e h
          exact ⟨z, hz.imp (fun q => by simp [q]) (fun q => by simp [q]), e1⟩
termination_by a b => a.length + b.length
theorem merge_ev (a b : List S41) (hl : a.length + b.length < 4398046511104) (hf : ∀ e ∈ a, e.f0.length ≤ 9223372036854775807) : Ev (fun k => erasureref06_merge.f k a b) (mergeS a b) := by
  unfold erasureref06_merge.f
  have key : ∀ d i j, i ≤ a.length → j ≤ b.length → (a.length - i) + (b.length - j) = d → ∀ acc : List S41, acc.length ≤ i + j → Ev (fun k => erasureref06_merge.l0 k a b acc (i : Int) (j : Int)) (acc ++ mergeS (a.drop i) (b.drop j)) := by
    intro d
    induction d using Nat.strongRecOn with
    | _ d ih =>
      intro i j hi hj hd acc ha
      have takeA : (hi2 : i < a.length) → mergeS (a.drop i) (b.drop j) = rd_T41 a (i : Int) :: mergeS (a.drop (i + 1)) (b.drop j) → Ev (fun k => erasureref06_merge.j2 k a b acc (i : Int) (j : Int) (-1)) (acc ++ mergeS (a.drop i) (b.drop j)) := by
        intro hi2 he
        refine Ev.succ ?_
        simp only [erasureref06_merge.j2]
        refine Ev.ite_pos (by omega) (Ev.ite_pos (by omega) (Ev.ite_pos (by omega) (Ev.ite_pos (by omega) ?_)))
        rw [wrn hi2 (by omega), he]
        have := ih _ (by omega) (i + 1) j (by omega) hj rfl (acc ++ [rd_T41 a (i : Int)]) (by simp; omega)
        simpa using this
      have takeB : (hj2 : j < b.length) → mergeS (a.drop i) (b.drop j) = rd_T41 b (j : Int) :: mergeS (a.drop i) (b.drop (j + 1)) → Ev (fun k => erasureref06_merge.j2 k a b acc (i : Int) (j : Int) 1) (acc ++ mergeS (a.drop i) (b.drop j)) := by
        intro hj2 he
        refine Ev.succ ?_
        simp only [erasureref06_merge.j2]
        refine Ev.ite_neg (by omega) (Ev.ite_pos (by omega) (Ev.ite_pos (by omega) (Ev.ite_pos (by omega) (Ev.ite_pos (by omega) ?_))))
        rw [wrn hj2 (by omega), he]
        have := ih _ (by omega) i (j + 1) hi (by omega) rfl (acc ++ [rd_T41 b (j : Int)]) (by simp; omega)
        simpa using this
      have main : i < a.length ∨ j < b.length → Ev (fun k => erasureref06_merge.j1 k a b acc (i : Int) (j : Int) true) (acc ++ mergeS (a.drop i) (b.drop j)) := by
        intro hor
        refine Ev.succ ?_
        simp only [erasureref06_merge.j1, if_true]
        by_cases c1 : i = a.length
        · refine Ev.ite_pos (by omega) (takeB (by omega) ?_)
          rw [List.drop_eq_nil_of_le (show a.length ≤ i by omega), dE (show j < b.length by omega)]
          simp [mergeS]
        · refine Ev.ite_neg (by omega) ?_
          by_cases c2 : j = b.length
          · refine Ev.ite_pos (by omega) (takeA (by omega) ?_)
            rw [List.drop_eq_nil_of_le (show b.length ≤ j by omega), mergeS_nil, mergeS_nil, dE (show i < a.length by omega)]
          · have hi2 : i < a.length := by omega
            have hj2 : j < b.length := by omega
            refine Ev.ite_neg (by omega) (Ev.ite_pos (by omega) (Ev.ite_pos (by omega) (Ev.ite_pos (by omega) (Ev.ite_pos (by omega) ?_))))
            refine Ev.bind (ref01_CompareRows_ev _ _ (hf _ (by simp [rd_T41, hi2]))) ?_
            have he := dE hi2
            have hb := dE hj2
            by_cases c3 : cmpR (rd_T41 a (i : Int)).f0 (rd_T41 b (j : Int)).f0 < 0
            · have hm : mergeS (a.drop i) (b.drop j) = rd_T41 a (i : Int) :: mergeS (a.drop (i + 1)) (b.drop j) := by
                rw [he, hb, mergeS, if_pos c3]
              rw [hm]
              refine Ev.succ ?_
              simp only [erasureref06_merge.j2]
              refine Ev.ite_pos c3 (Ev.ite_pos (by omega) (Ev.ite_pos (by omega) (Ev.ite_pos (by omega) ?_)))
              rw [wrn hi2 (by omega)]
              have := ih _ (by omega) (i + 1) j (by omega) hj rfl (acc ++ [rd_T41 a (i : Int)]) (by simp; omega)
              simpa using this
            · by_cases c4 : cmpR (rd_T41 a (i : Int)).f0 (rd_T41 b (j : Int)).f0 > 0
              · have hm : mergeS (a.drop i) (b.drop j) = rd_T41 b (j : Int) :: mergeS (a.drop i) (b.drop (j + 1)) := by
                  rw [he, hb, mergeS, if_neg c3, if_pos c4]
                rw [hm]
                refine Ev.succ ?_
                simp only [erasureref06_merge.j2]
                refine Ev.ite_neg c3 (Ev.ite_pos c4 (Ev.ite_pos (by omega) (Ev.ite_pos (by omega) (Ev.ite_pos (by omega) ?_))))
                rw [wrn hj2 (by omega)]
                have := ih _ (by omega) i (j + 1) hi (by omega) rfl (acc ++ [rd_T41 b (j : Int)]) (by simp; omega)
                simpa using this
              · have hm : mergeS (a.drop i) (b.drop j) = sumE (rd_T41 a (i : Int)) (rd_T41 b (j : Int)) ++ mergeS (a.drop (i + 1)) (b.drop (j + 1)) := by
                  rw [he, hb, mergeS, if_neg c3, if_neg c4]
                rw [hm]
                refine Ev.succ ?_
                simp only [erasureref06_merge.j2]
                refine Ev.ite_neg c3 (Ev.ite_neg c4 (Ev.ite_pos (by omega) (Ev.ite_pos (by omega) (Ev.ite_pos (by omega) (Ev.ite_pos (by omega) ?_)))))
                rw [wrn hi2 (by omega), wrn hj2 (by omega)]
                unfold sumE
                by_cases c5 : wrap64 ((rd_T41 a (i : Int)).f1 + (rd_T41 b (j : Int)).f1) = 0
                · rw [if_pos c5]
                  exact Ev.ite_pos c5 (by simpa using ih _ (by omega) (i + 1) (j + 1) (by omega) (by omega) rfl acc (by omega))
                · rw [if_neg c5]
                  refine Ev.ite_neg c5 (Ev.ite_pos (by omega) ?_)
                  have := ih _ (by omega) (i + 1) (j + 1) (by omega) (by omega) rfl (acc ++ [⟨(rd_T41 a (i : Int)).f0, wrap64 ((rd_T41 a (i : Int)).f1 + (rd_T41 b (j : Int)).f1)⟩]) (by simp; omega)
                  simpa using this
      refine Ev.succ ?_
      simp only [erasureref06_merge.l0]
      by_cases c1 : i < a.length
      · exact Ev.ite_pos (by omega) (main (.inl c1))
      · refine Ev.ite_neg (by omega) ?_
        by_cases c2 : j < b.length
        · rw [show decide ((j : Int) < (b.length : Int)) = true from decide_eq_true (by omega)]; exact main (.inr c2)
        · rw [show decide ((j : Int) < (b.length : Int)) = false from decide_eq_false (by omega)]
          refine Ev.succ ?_
          simp only [erasureref06_merge.j1, Bool.false_eq_true, if_false]
          rw [List.drop_eq_nil_of_le (show a.length ≤ i by omega), List.drop_eq_nil_of_le (show b.length ≤ j by omega)]
          exact Ev.done (by simp [mergeS])
  simpa using key _ 0 0 (by omega) (by omega) rfl [] (by simp)
def sortS (l : List S41) : List S41 :=
  if h0 : l.length = 0 then []
  else if h1 : l.length = 1 then (if (rd_T41 l 0).f1 = 0 then [] else [rd_T41 l 0])
  else mergeS (sortS (l.take (l.length / 2))) (sortS (l.drop (l.length / 2)))
termination_by l.length
decreasing_by
  · rw [List.length_take]; omega
  · rw [List.length_drop]; omega
theorem sortS_len (l : List S41) : (sortS l).length ≤ l.length := by
  generalize hn : l.length = n
  induction n using Nat.strongRecOn generalizing l with
  | _ n ih =>
    unfold sortS
    by_cases h0 : l.length = 0
    · rw [dif_pos h0]; simp
    · rw [dif_neg h0]
      by_cases h1 : l.length = 1
      · rw [dif_pos h1]; split <;> simp <;> omega
      · rw [dif_neg h1]
        have h2 := ih (l.length / 2) (by omega) (l.take (l.length / 2)) (by rw [List.length_take]; omega)
        have h3 := ih (l.length - l.length / 2) (by omega) (l.drop (l.length / 2)) (by rw [List.length_drop])
        have h4 := mergeS_len (sortS (l.take (l.length / 2))) (sortS (l.drop (l.length / 2)))
        omega
theorem sortS_row (l : List S41) : ∀ e ∈ sortS l, ∃ z ∈ l, e.f0 = z.f0 := by
  generalize hn : l.length = n
  induction n using Nat.strongRecOn generalizing l with
  | _ n ih =>
    intro e he
    unfold sortS at he
    by_cases h0 : l.length = 0
    · rw [dif_pos h0] at he; cases he
    · rw [dif_neg h0] at he
      by_cases h1 : l.length = 1
      · rw [dif_pos h1] at he
        split at he
        · cases he
        · rw [List.mem_singleton.1 he]
          refine ⟨_, ?_, rfl⟩
          simp [rd_T41, h1]
      · rw [dif_neg h1] at he
        obtain ⟨z, hz, e1⟩ := mergeS_row _ _ e he
        rcases hz with hz | hz
        · obtain ⟨y, hy, e2⟩ := ih (l.length / 2) (by omega) (l.take (l.length / 2)) (by rw [List.length_take]; omega) z hz
          exact ⟨y, List.mem_of_mem_take hy, e1.trans e2⟩
        · obtain ⟨y, hy, e2⟩ := ih (l.length - l.length / 2) (by omega) (l.drop (l.length / 2)) (by rw [List.length_drop]) z hz
          exact ⟨y, List.mem_of_mem_drop hy, e1.trans e2⟩
theorem sort_ev (l : List S41) (hl : l.length < 4398046511104) (hf : ∀ e ∈ l, e.f0.length ≤ 9223372036854775807) : Ev (fun k => erasureref06_sort.f k l) (sortS l) := by
  generalize hn : l.length = n
  induction n using Nat.strongRecOn generalizing l with
  | _ n ih =>
    refine Ev.succ ?_
    simp only [erasureref06_sort.f]
    unfold sortS
    by_cases h0 : l.length = 0
    · rw [dif_pos h0]; exact Ev.ite_pos (by omega) (Ev.now _)
    · rw [dif_neg h0]
      refine Ev.ite_neg (by omega) ?_
      by_cases h1 : l.length = 1
      · rw [dif_pos h1]
        refine Ev.ite_pos (by omega) (Ev.ite_pos (by omega) ?_)
        by_cases h2 : (rd_T41 l 0).f1 = 0
        · simp only [h2, if_true]; exact Ev.now _
        · simp only [h2, if_false]; exact Ev.now _
      · rw [dif_neg h1]
        have hw : wrap64 ((l.length : Int) / 2) = ((l.length / 2 : Nat) : Int) := by rw [wr (by omega)]; omega
        rw [hw]
        simp only [Int.toNat_natCast]
        refine Ev.ite_neg (by omega) (Ev.ite_pos (by omega) (Ev.ite_pos (by omega) ?_))
        have lt1 := sortS_len (l.take (l.length / 2))
        have lt2 := sortS_len (l.drop (l.length / 2))
        rw [List.length_take] at lt1
        rw [List.length_drop] at lt2
        refine Ev.bind (ih (l.length / 2) (by omega) (l.take (l.length / 2)) (by rw [List.length_take]; omega) (fun e he => hf e (List.mem_of_mem_take he)) (by rw [List.length_take]; omega)) ?_
        refine Ev.bind (ih (l.length - l.length / 2) (by omega) (l.drop (l.length / 2)) (by rw [List.length_drop]; omega) (fun e he => hf e (List.mem_of_mem_drop he)) (by rw [List.length_drop])) ?_
        refine Ev.bind (merge_ev _ _ (by omega) (fun e he => ?_)) (Ev.now _)
        obtain ⟨z, hz, e1⟩ := sortS_row _ e he
        rw [e1]
        exact hf z (List.mem_of_mem_take hz)
def cntOK (n : Int) : Bool := decide (-262144 ≤ n ∧ n ≤ 262144)
def fitsS (l : List S41) : List S41 × Int := if l.length > 4096 then ([], 8) else if l.all (fun e => cntOK e.f1) then (l, 0) else ([], 9)
theorem fits_ev (l : List S41) : Ev (fun k => erasureref06_fits.f k l) (fitsS l) := by
  unfold erasureref06_fits.f fitsS
  by_cases h : l.length > 4096
  · rw [if_pos h]; exact Ev.ite_pos (by omega) (Ev.now _)
  · rw [if_neg h]
    refine Ev.ite_neg (by omega) ?_
    refine (loop_down (P := fun i => Ev (fun k => erasureref06_fits.l0 k l (i : Int)) (if (l.drop i).all (fun e => cntOK e.f1) then (l, 0) else ([], 9))) l.length ?_ ?_ 0 (by omega))
    · refine Ev.succ ?_
      simp only [erasureref06_fits.l0]
      rw [List.drop_length]
      exact Ev.ite_neg (by omega) (Ev.done (by simp))
    · intro i hi ih
      refine Ev.succ ?_
      simp only [erasureref06_fits.l0, ref06_countOK_eq, Option.bind_some]
      refine Ev.ite_pos (by omega) (Ev.ite_pos (by omega) ?_)
      rw [dE hi, wrn hi (by omega), List.all_cons]
      show Ev (fun k => if cntOK (rd_T41 l (i : Int)).f1 = true then _ else _) _
      cases hc : cntOK (rd_T41 l (i : Int)).f1 with
      | true => exact Ev.ite_pos rfl (by simpa using ih)
      | false => exact Ev.ite_neg (by simp) (Ev.done (by simp))
def normS (l : List S41) : List S41 × Int := if l.all okE then fitsS (sortS l) else ([], 1)
theorem Normalize_ev (l : List S41) (hl : l.length < 4398046511104) (hf : Fin l) : Ev (fun k => erasureref06_Normalize.f k l) (normS l) := by
  unfold erasureref06_Normalize.f normS
  refine (loop_down (P := fun i => Ev (fun k => erasureref06_Normalize.l0 k l (i : Int)) (if (l.drop i).all okE then fitsS (sortS l) else ([], 1))) l.length ?_ ?_ 0 (by omega))
  · refine Ev.succ ?_
    simp only [erasureref06_Normalize.l0]
    rw [List.drop_length]
    refine Ev.ite_neg (by omega) (Ev.bind (sort_ev l hl hf.2) (Ev.bind (fits_ev _) (Ev.done (by simp))))
  · intro i hi ih
    refine Ev.succ ?_
    simp only [erasureref06_Normalize.l0, ref06_countOK_eq, Option.bind_some]
    refine Ev.ite_pos (by omega) (Ev.ite_pos (by omega) (Ev.bind (ref01_ValidRow_ev _) ?_))
    rw [dE hi, wrn hi hf.1, List.all_cons]
    have e1 : okE (rd_T41 l (i : Int)) = (okR (rd_T41 l (i : Int)).f0 && decide (-262144 ≤ (rd_T41 l (i : Int)).f1 ∧ (rd_T41 l (i : Int)).f1 ≤ 262144)) := rfl
    rw [e1]
    cases hc : okR (rd_T41 l (i : Int)).f0 with
    | false => exact Ev.ite_neg (by simp) (Ev.done (by simp))
    | true =>
      refine Ev.ite_pos rfl ?_
      by_cases hk : (-262144 ≤ (rd_T41 l (i : Int)).f1 ∧ (rd_T41 l (i : Int)).f1 ≤ 262144)
      · rw [decide_eq_true hk]; exact Ev.ite_pos rfl (by simpa using ih)
      · rw [decide_eq_false hk]; exact Ev.ite_neg (by simp) (Ev.done (by simp))
theorem normS_fin {l : List S41} (hf : Fin l) : Fin (normS l).1 := by
  unfold normS fitsS
  have h0 : Fin ([] : List S41) := ⟨by simp, fun e he => by cases he⟩
  split
  · split
    · exact h0
    · split
      · exact ⟨Nat.le_trans (sortS_len l) hf.1, fun e he => by obtain ⟨z, hz, e1⟩ := sortS_row l e he; rw [e1]; exact hf.2 z hz⟩
      · exact h0
  · exact h0
end Go.Proofs.Ytjhnpaenhdbhpaa.Q
namespace Go.Proofs.Ytjhnpaenhdbhpaa.Q
open Go.RowKit Go.Proofs.Ytjhnpaenhdbhpaa.P Go.Proofs.YtjhnpaenhdbhpaaW.PrintWords Go.Proofs.YtjhnpaenhdbhpaaW.PrintLast
set_option linter.unusedVariables false
set_option linter.unusedSimpArgs false
theorem sameV_iff (x y : S38) : ((!(x.f0 == y.f0) || (!(x.f1 == y.f1) || (!(x.f2.toList == y.f2.toList)))) = true) ↔ ¬ x = y := by
  constructor
  · intro h e; subst e; simp at h
  · intro h
    by_cases h0 : x.f0 = y.f0
    · by_cases h1 : x.f1 = y.f1
      · by_cases h2 : x.f2.toList = y.f2.toList
        · exact absurd (V_ext h0 h1 (bytes_ext h2)) h
        · simp [h2]
      · simp [h1]
    · simp [h0]
instance : DecidableEq S38 := fun x y => decidable_of_iff (x.f0 = y.f0 ∧ x.f1 = y.f1 ∧ x.f2 = y.f2) ⟨fun h => V_ext h.1 h.2.1 h.2.2, fun h => by subst h; exact ⟨rfl, rfl, rfl⟩⟩
theorem ref22_SameRow_ev (a b : List S38) (ha : a.length ≤ 9223372036854775807) : Ev (fun k => erasureref22_SameRow.f k a b) (decide (a = b)) := by
  unfold erasureref22_SameRow.f
  by_cases hl : a.length = b.length
  · refine Ev.ite_pos (by omega) ?_
    refine (loop_down (P := fun i => Ev (fun k => erasureref22_SameRow.l0 k a b (i : Int)) (decide (a.drop i = b.drop i))) a.length ?_ ?_ 0 (by omega))
    · refine Ev.succ ?_
      simp only [erasureref22_SameRow.l0]
      rw [List.drop_length, List.drop_eq_nil_of_le (show b.length ≤ a.length by omega)]
      exact Ev.ite_neg (by omega) (Ev.done (by simp))
    · intro i hi ih
      refine Ev.succ ?_
      simp only [erasureref22_SameRow.l0]
      refine Ev.ite_pos (by omega) (Ev.ite_pos (by omega) (Ev.ite_pos (by omega) ?_))
      rw [dV hi, dV (show i < b.length by omega), wrn hi ha]
      by_cases h : rd_T38 a (i : Int) = rd_T38 b (i : Int)
      · have hn : ¬ _ := fun e => (sameV_iff _ _).1 e h
        refine Ev.ite_neg hn ?_
        have e : decide (rd_T38 a (i : Int) :: a.drop (i + 1) = rd_T38 b (i : Int) :: b.drop (i + 1)) = decide (a.drop (i + 1) = b.drop (i + 1)) := by rw [h]; simp
        rw [e]; exact ih
      · refine Ev.ite_pos ((sameV_iff _ _).2 h) (Ev.done ?_)
        simp [h]
  · refine Ev.ite_neg (by omega) (Ev.done ?_)
    rw [decide_eq_false (fun e => hl (by rw [e]))]
theorem ref26_SameRow_ev (a b : List S38) (ha : a.length ≤ 9223372036854775807) : Ev (fun k => erasureref26_SameRow.f k a b) (decide (a = b)) := by
  unfold erasureref26_SameRow.f
  exact Ev.bind (ref22_SameRow_ev a b ha) (Ev.now _)
end Go.Proofs.Ytjhnpaenhdbhpaa.Q
namespace Go.Proofs.Ytjhnpaenhdbhpaa.Q
open Go.RowKit Go.Proofs.Ytjhnpaenhdbhpaa.P Go.Proofs.YtjhnpaenhdbhpaaW.PrintWords Go.Proofs.YtjhnpaenhdbhpaaW.PrintLast
set_option linter.unusedVariables false
set_option linter.unusedSimpArgs false
def intV (n : Int) : S38 := ⟨1, n, ⟨#[]⟩⟩
theorem okV_int {n : Int} (h : -4294967296 ≤ n ∧ n ≤ 4294967296) : okV (intV n) = true := by
  unfold okV intV
  rw [if_neg (show ¬ ((1 : Int) = 0) by decide), if_pos rfl]
  simp [h]
def rowG (i : Nat) (n : Int) : S41 := ⟨[intV i, intV n], 1⟩
def IsG : Nat → List S41 → Prop
  | _, [] => True
  | i, e :: l => ∃ (a : Nat) (n : Int), i ≤ a ∧ a < 40 ∧ 0 < n ∧ n < 1024 ∧ e = rowG a n ∧ IsG (a + 1) l
theorem cmpV_int {a b : Int} (ha : -4294967296 ≤ a ∧ a ≤ 4294967296) (hb : -4294967296 ≤ b ∧ b ≤ 4294967296) : cmpV (intV a) (intV b) = cmpI a b := by
  unfold cmpV
  rw [clV_ok (okV_int ha), clV_ok (okV_int hb)]
  rfl
theorem okE_rowG {a : Nat} {n : Int} (ha : a < 40) (hn : 0 < n ∧ n < 1024) : okE (rowG a n) = true := by
  unfold okE okR rowG
  simp [okV_int (show -4294967296 ≤ (a : Int) ∧ (a : Int) ≤ 4294967296 by omega), okV_int (show -4294967296 ≤ n ∧ n ≤ 4294967296 by omega)]
theorem IsG.bvF : ∀ {l : List S41} {i : Nat} (p : Option S41), IsG i l → (∀ e, p = some e → ∃ (a : Nat) (n : Int), a < i ∧ a < 40 ∧ 0 < n ∧ n < 1024 ∧ e = rowG a n) → Q.bvF p l = true
  | [], _, p, _, _ => by cases p <;> rfl
  | e :: l, i, p, ⟨a, n, h1, h2, h3, h4, h5, h6⟩, hp => by
    subst h5
    have ht := IsG.bvF (some (rowG a n)) h6 (fun e he => ⟨a, n, by omega, h2, h3, h4, (Option.some.inj he).symm⟩)
    have hk := okE_rowG h2 ⟨h3, h4⟩
    cases p with
    | none => simp only [Q.bvF, hk, ht]; simp [rowG]
    | some q =>
      obtain ⟨b, m, b1, b2, b3, b4, rfl⟩ := hp q rfl
      have hc : cmpR (rowG b m).f0 (rowG a n).f0 < 0 := by
        show cmpR [intV b, intV m] [intV a, intV n] < 0
        unfold cmpR
        have e1 : cmpV (intV b) (intV a) = cmpI b a := cmpV_int (by omega) (by omega)
        have e2 : cmpI (b : Int) (a : Int) < 0 := cmpI_neg.2 (by omega)
        rw [e1, if_neg (by omega)]; exact e2
      simp only [Q.bvF, hk, ht, decide_eq_true hc]; simp [rowG]
theorem IsG.len : ∀ {l : List S41} {i : Nat}, IsG i l → l.length + i ≤ 40 ∨ l = []
  | [], _, _ => .inr rfl
  | e :: l, i, ⟨a, n, h1, h2, h3, h4, h5, h6⟩ => by
    rcases h6.len with h | h
    · left; simp; omega
    · subst h; left; simp; omega
theorem IsG.len40 {l : List S41} {i : Nat} (h : IsG i l) : l.length ≤ 40 := by
  rcases h.len with h | h
  · omega
  · subst h; simp
theorem IsG.bagV {l : List S41} {i : Nat} (h : IsG i l) : Q.bagV l = true := by
  unfold Q.bagV
  rw [h.bvF none (fun e he => by cases he), decide_eq_true (by have := h.len40; omega)]; rfl
end Go.Proofs.Ytjhnpaenhdbhpaa.Q
namespace Go.Proofs.Ytjhnpaenhdbhpaa.Q
open Go.RowKit Go.Proofs.Ytjhnpaenhdbhpaa.P Go.Proofs.YtjhnpaenhdbhpaaW.PrintWords Go.Proofs.YtjhnpaenhdbhpaaW.PrintLast
set_option linter.unusedVariables false
set_option linter.unusedSimpArgs false
theorem U_ext {x y : S43} (h0 : x.f0 = y.f0) (h1 : x.f1 = y.f1) : x = y := by cases x; cases y; simp_all
instance : DecidableEq S43 := fun x y => decidable_of_iff (x.f0 = y.f0 ∧ x.f1 = y.f1) ⟨fun h => U_ext h.1 h.2, fun h => by subst h; exact ⟨rfl, rfl⟩⟩
def FinU (l : List S43) : Prop := l.length ≤ 9223372036854775807 ∧ ∀ e ∈ l, e.f0.length ≤ 9223372036854775807
theorem FinU.at {l : List S43} (h : FinU l) {i : Nat} (hi : i < l.length) : (rd_T43 l (i : Int)).f0.length ≤ 9223372036854775807 := by
  refine h.2 _ ?_
  simp [rd_T43, hi]
theorem Same_ev (a b : List S43) (ha : FinU a) : Ev (fun k => erasureref35_Same.f k a b) (decide (a = b)) := by
  unfold erasureref35_Same.f
  by_cases hl : a.length = b.length
  · refine Ev.ite_pos (by omega) ?_
    refine (loop_down (P := fun i => Ev (fun k => erasureref35_Same.l0 k a b (i : Int)) (decide (a.drop i = b.drop i))) a.length ?_ ?_ 0 (by omega))
    · refine Ev.succ ?_
      simp only [erasureref35_Same.l0]
      rw [List.drop_length, List.drop_eq_nil_of_le (show b.length ≤ a.length by omega)]
      exact Ev.ite_neg (by omega) (Ev.done (by simp))
    · intro i hi ih
      refine Ev.succ ?_
      simp only [erasureref35_Same.l0]
      refine Ev.ite_pos (by omega) (Ev.ite_pos (by omega) (Ev.ite_pos (by omega) ?_))
      rw [dU hi, dU (show i < b.length by omega), wrn hi ha.1]
      by_cases h1 : (rd_T43 a (i : Int)).f1 = (rd_T43 b (i : Int)).f1
      · refine Ev.ite_pos h1 (Ev.bind (ref26_SameRow_ev _ _ (ha.at hi)) ?_)
        by_cases h0 : (rd_T43 a (i : Int)).f0 = (rd_T43 b (i : Int)).f0
        · have h : rd_T43 a (i : Int) = rd_T43 b (i : Int) := U_ext h0 h1
          rw [decide_eq_true h0]
          refine Ev.ite_pos rfl ?_
          have e : decide (rd_T43 a (i : Int) :: a.drop (i + 1) = rd_T43 b (i : Int) :: b.drop (i + 1)) = decide (a.drop (i + 1) = b.drop (i + 1)) := by rw [h]; simp
          rw [e]; exact ih
        · rw [decide_eq_false h0]
          refine Ev.ite_neg (by simp) (Ev.done ?_)
          rw [decide_eq_false]
          intro e; exact h0 (by rw [(List.cons.inj e).1])
      · refine Ev.ite_neg h1 (Ev.done ?_)
        rw [decide_eq_false]
        intro e; exact h1 (by rw [(List.cons.inj e).1])
  · refine Ev.ite_neg (by omega) (Ev.done ?_)
    rw [decide_eq_false (fun e => hl (by rw [e]))]
theorem Same_self (a : List S43) (ha : FinU a) : Ev (fun k => erasureref35_Same.f k a a) true := by
  have := Same_ev a a ha
  simpa using this
theorem pubE_len {T keys : Int} {e : S41} {u : S43} (h : pubE T keys e = some u) : u.f0.length ≤ e.f0.length := by
  unfold pubE at h
  split at h
  · rw [← Option.some.inj h]; simp; omega
  · cases h
theorem pubS_fin {T keys : Int} {l : List S41} (hl : Fin l) : FinU (pubS T keys l) := by
  unfold pubS
  split
  · exact ⟨by simp, fun e he => by cases he⟩
  · refine ⟨Nat.le_trans (List.length_filterMap_le _ _) hl.1, fun u hu => ?_⟩
    obtain ⟨e, he, h⟩ := List.mem_filterMap.1 hu
    exact Nat.le_trans (pubE_len h) (hl.2 e he)
theorem short_ev (l : List S41) (hl : l.length ≤ 9223372036854775807) : Ev (fun k => erasurelaw35_short.f k l) (l.all (fun e => decide (e.f0.length ≤ 20)) && decide (l.length ≤ 40)) := by
  unfold erasurelaw35_short.f
  refine (loop_down (P := fun i => Ev (fun k => erasurelaw35_short.l0 k l (i : Int)) ((l.drop i).all (fun e => decide (e.f0.length ≤ 20)) && decide (l.length ≤ 40))) l.length ?_ ?_ 0 (by omega))
  · refine Ev.succ ?_
    simp only [erasurelaw35_short.l0]
    rw [List.drop_length]
    refine Ev.ite_neg (by omega) (Ev.done ?_)
    simp; omega
  · intro i hi ih
    refine Ev.succ ?_
    simp only [erasurelaw35_short.l0]
    refine Ev.ite_pos (by omega) (Ev.ite_pos (by omega) ?_)
    rw [dE hi, wrn hi hl, List.all_cons]
    by_cases h : (rd_T41 l (i : Int)).f0.length ≤ 20
    · rw [decide_eq_true h]; exact Ev.ite_neg (by omega) (by simpa using ih)
    · rw [decide_eq_false h]; exact Ev.ite_pos (by omega) (Ev.done (by simp))
theorem ReleasePublishes_std (x0 : S23) (x1 : Int) (x2 : List S41) (h0 : (x0.f0.size ≤ maxLen ∧ (x0.f1.size ≤ maxLen ∧ (Lit.int .i64 x0.f2).wf = true))) (h1 : (Lit.int .i64 x1).wf = true)
    (h2 : (x2.length ≤ maxLen ∧ ∀ e0 ∈ x2, ((e0.f0.length ≤ maxLen ∧ ∀ e1 ∈ e0.f0, ((Lit.int .i64 e1.f0).wf = true ∧ ((Lit.int .i64 e1.f1).wf = true ∧ e1.f2.size ≤ maxLen))) ∧ (Lit.int .i64 e0.f1).wf = true))) :
    ∃ k, erasurelaw35_ReleasePublishes.f k x0.f0 x0.f1 x0.f2 x1 x2 = some true := by
  have hf : Fin x2 := ⟨by have := h2.1; simp only [maxLen] at this; omega, fun e he => by have := (h2.2 e he).1.1; simp only [maxLen] at this; omega⟩
  refine Ev.rounds (g := fun k => erasurelaw35_ReleasePublishes.f k x0.f0 x0.f1 x0.f2 x1 x2) ?_
  unfold erasurelaw35_ReleasePublishes.f
  refine Ev.bind (short_ev x2 hf.1) ?_
  cases hs : (x2.all (fun e => decide (e.f0.length ≤ 20)) && decide (x2.length ≤ 40)) with
  | false => exact Ev.ite_neg (by simp) (Ev.bind awake_ev (Ev.now _))
  | true =>
    simp only [Bool.and_eq_true, decide_eq_true_eq] at hs
    have hn := normS_fin hf
    refine Ev.ite_pos rfl (Ev.bind (Normalize_ev x2 (by omega) hf) (Ev.bind (Publish_ev _ _ _ _ _ hf) (Ev.bind (refPublish_ev _ _ _ _ _ hf) (Ev.bind (Same_self _ (pubS_fin hf)) (Ev.ite_pos rfl (Ev.bind (Publish_ev _ _ _ _ _ hn) (Ev.bind (refPublish_ev _ _ _ _ _ hn) (Ev.bind (Same_self _ (pubS_fin hn)) (Ev.ite_pos rfl (Ev.bind awake_ev (Ev.now _)))))))))))
end Go.Proofs.Ytjhnpaenhdbhpaa.Q
namespace Go.Proofs.Ytjhnpaenhdbhpaa.Q
open Go.RowKit Go.Proofs.Ytjhnpaenhdbhpaa.P Go.Proofs.YtjhnpaenhdbhpaaW.PrintWords Go.Proofs.YtjhnpaenhdbhpaaW.PrintLast
set_option linter.unusedVariables false
set_option linter.unusedSimpArgs false
structure Opens {α : Type} (P : Program) (t : TypeId) (d : Kd α) (B : α → Prop) : Prop where mk ::
  out : ∀ {H : Type} (enc : TypeId × Value → H) (W : World) (fuel : Nat) (cs : List Value) (y : DataW H × List MemPlace), DataW.trod enc P W 0 (fun _ => true) true fuel t cs = some y → ∃ x, d.K W x cs ∧ B x
theorem opens_int {P : Program} {t : TypeId} {k : IntKind} (ht : P.underlying t = some (.int k)) : Opens P t (Kd.int k) (fun n => (Lit.int k n).wf = true) := by
  constructor
  intro H enc W fuel cs y h
  obtain ⟨n, rfl, _, hw⟩ := DataW.trod_int ht h
  exact ⟨n, rfl, hw⟩
theorem opens_string {P : Program} {t : TypeId} (ht : P.underlying t = some .string) : Opens P t Kd.string (fun s => s.size ≤ maxLen) := by
  constructor
  intro H enc W fuel cs y h
  obtain ⟨n, rfl, _, hs⟩ := DataW.trod_string ht h
  exact ⟨n, rfl, hs⟩
theorem opens_slice {α : Type} {P : Program} {t e : TypeId} {d : Kd α} {B : α → Prop} (ht : P.underlying t = some (.slice e)) (hd : Opens P e d B) (hc : P.cellsOf e = d.sz) : Opens P t (Kd.slice e d) (fun xs => xs.length ≤ maxLen ∧ ∀ x ∈ xs, B x) := by
  constructor
  intro H enc W fuel cs y h
  rcases DataW.trod_slice ht h with ⟨rfl, _⟩ | ⟨a, len, cap, elems, rest, n, _, rfl, _, _, hl, hm, hel, hat, _, _⟩
  · exact ⟨[], ⟨none, 0, rfl, Nat.le_refl _, Kd.C_nil d W⟩, by simp [maxLen], fun x hx => by cases hx⟩
  · have key : ∀ i, i < len → ∃ x cs', cs'.length = d.sz ∧ d.K W x cs' ∧ B x ∧ ∀ j u, cs'[j]? = some u → W.cell? (a.add (i * d.sz + j)) = some u := by
      intro i hi
      have h1 := hat i hi
      rw [List.getElem?_eq_getElem (by omega)] at h1
      obtain ⟨cs', h2, h3⟩ := Option.bind_eq_some_iff.1 h1
      obtain ⟨x, hk, hb⟩ := hd.out enc W n cs' _ h3
      refine ⟨x, cs', d.K_len hk, hk, hb, fun j u hu => ?_⟩
      rw [hc] at h2
      unfold World.cells? at h2
      rw [if_pos (Nat.zero_le _)] at h2
      have h4 := mapM_some_get h2 j j (by
        have := (List.getElem?_eq_some_iff.1 hu).1
        rw [d.K_len hk] at this
        simp [this])
      rw [hu] at h4
      have ha : (a.add (i * d.sz)).add j = a.add (i * d.sz + j) := by
        unfold Addr.add
        by_cases e1 : i * d.sz = 0 <;> by_cases e2 : j = 0 <;> simp [e1, e2, Nat.add_assoc]
      rw [ha] at h4
      exact h4
    have key2 : ∀ m, m ≤ len → ∃ xs : List α, xs.length = m ∧ (∀ x ∈ xs, B x) ∧ ∀ i x, xs[i]? = some x → ∃ c, c.length = d.sz ∧ d.K W x c ∧ ∀ j u, c[j]? = some u → W.cell? (a.add (i * d.sz + j)) = some u := by
      intro m
      induction m with
      | zero => intro _; exact ⟨[], rfl, fun x hx => (by cases hx), fun i x hx => by simp at hx⟩
      | succ m ih =>
        intro hm2
        obtain ⟨xs, h1, h2, h3⟩ := ih (by omega)
        obtain ⟨x, c, h4, h5, h6, h7⟩ := key m (by omega)
        refine ⟨xs ++ [x], by simp [h1], fun y hy => ?_, fun i y hy => ?_⟩
        · rcases List.mem_append.1 hy with hy | hy
          · exact h2 y hy
          · rw [List.mem_singleton.1 hy]; exact h6
        · rcases Nat.lt_or_ge i xs.length with hi | hi
          · rw [List.getElem?_append_left hi] at hy; exact h3 i y hy
          · have hi2 : i = xs.length := by
              have := (List.getElem?_eq_some_iff.1 hy).1
              simp at this
              omega
            subst hi2
            simp at hy
            subst hy
            rw [h1]
            exact ⟨c, h4, h5, h7⟩
    obtain ⟨xs, h1, h2, h3⟩ := key2 len (Nat.le_refl _)
    refine ⟨xs, ⟨some a, cap, by rw [h1], by omega, rfl, by rw [h1]; simp only [maxLen] at hm; omega, fun hp => ⟨a, rfl, h3⟩⟩, by rw [h1]; simp only [maxLen] at hm ⊢; omega, h2⟩
structure OpensFs {α : Type} (P : Program) (fs : List Field) (off : Nat) (d : Kd α) (B : α → Prop) : Prop where mk ::
  out : ∀ {H : Type} (enc : TypeId × Value → H) (W : World) (fuel : Nat) (cs : List Value) (ys : List (DataW H × List MemPlace)), cs.length = off + d.sz → ys.length = fs.length →
    (∀ (i : Nat) (f : Field), fs[i]? = some f → DataW.trod enc P W 0 (fun _ => true) true fuel f.type ((cs.drop f.offset).take (P.cellsOf f.type)) = ys[i]?) → ∃ x, d.K W x (cs.drop off) ∧ B x
theorem opensFs_one {α : Type} {P : Program} {f : Field} {off : Nat} {d : Kd α} {B : α → Prop} (ho : f.offset = off) (hc : P.cellsOf f.type = d.sz) (hd : Opens P f.type d B) : OpensFs P [f] off d B := by
  constructor
  intro H enc W fuel cs ys hl hy h
  have h0 := h 0 f rfl
  rw [List.getElem?_eq_getElem (by rw [hy]; exact Nat.zero_lt_one), ho, hc, List.take_of_length_le (by rw [List.length_drop]; omega)] at h0
  exact hd.out enc W fuel _ _ h0
theorem opensFs_cons {α β : Type} {P : Program} {f : Field} {fs : List Field} {off : Nat} {a : Kd α} {b : Kd β} {Ba : α → Prop} {Bb : β → Prop} (ho : f.offset = off) (hc : P.cellsOf f.type = a.sz) (hd : Opens P f.type a Ba) (hs : OpensFs P fs (off + a.sz) b Bb) :
    OpensFs P (f :: fs) off (Kd.pair a b) (fun x => Ba x.1 ∧ Bb x.2) := by
  constructor
  intro H enc W fuel cs ys hl hy h
  have hl2 : cs.length = off + (a.sz + b.sz) := hl
  cases ys with
  | nil => simp at hy
  | cons y ys =>
    have h0 := h 0 f rfl
    rw [ho, hc] at h0
    obtain ⟨x, hx, hbx⟩ := hd.out enc W fuel _ _ h0
    obtain ⟨z, hz, hbz⟩ := hs.out enc W fuel cs ys (by omega) (by simpa using hy) (fun i g hg => h (i + 1) g hg)
    refine ⟨(x, z), ⟨(cs.drop off).take a.sz, cs.drop (off + a.sz), ?_, hx, hz⟩, hbx, hbz⟩
    rw [← List.drop_drop, List.take_append_drop]
theorem opens_struct {α β : Type} {P : Program} {t : TypeId} {fs : Array Field} {d : Kd α} {B : α → Prop} (f : β → α) (g : α → β) (hg : ∀ y, f (g y) = y) (ht : P.underlying t = some (.struct fs)) (hc : P.cellsOf t = d.sz) (hs : OpensFs P fs.toList 0 d B) :
    Opens P t (Kd.iso d f) (fun x => B (f x)) := by
  constructor
  intro H enc W fuel cs y h
  obtain ⟨xs, n, _, _, hl, hx, hi⟩ := DataW.trod_struct ht h
  obtain ⟨x, hk, hb⟩ := hs.out enc W n cs xs (by rw [hl, hc]; omega) (by rw [hx]; simp) (fun i f hf => hi i f (by simpa using hf))
  refine ⟨g x, ?_, by show B (f (g x)); rw [hg]; exact hb⟩
  show d.K W (f (g x)) cs
  rw [hg]
  simpa using hk
end Go.Proofs.Ytjhnpaenhdbhpaa.Q
