/- Part of the proof of ReleaseValid: printed by programs of this repo out of the translation, and by hand. Each theorem's conditions stand in its statement. -/
import Derived.Laws.Entries
import Derived.WideShapes
import Derived.ProofKit
import Derived.OpenShut
import Derived.ShutString
import Derived.ChangeOld
import Derived.SizedLaws
import Derived.ChangeSlices
import Derived.Test.YtjhnpaenhdbhpaaMReleaseValida
import Derived.Test.YtjhnpaenhdbhpaaMReleaseValidb
import Derived.Test.YtjhnpaenhdbhpaaMReleaseValidc
import Derived.Test.YtjhnpaenhdbhpaaMReleaseValidd
import Derived.Test.YtjhnpaenhdbhpaaMReleaseValide
import Derived.Test.YtjhnpaenhdbhpaaMReleaseValidf
namespace Go.Proofs.Ytjhnpaenhdbhpaa.P
open Go.RowKit Go.Proofs.YtjhnpaenhdbhpaaW.PrintWords Go.Proofs.YtjhnpaenhdbhpaaW.PrintLast Go.Proofs.YtjhnpaenhdbhpaaW.PrintMore
attribute [local go_sem] max2_int min2_int max_two min_two max_three min_three max_four min_four
set_option linter.unusedVariables false
set_option linter.unusedSimpArgs false
def erasurelaw35_ReleaseValid.f (k : Nat) (a0_0 : ByteArray) (a0_1 : ByteArray) (a0_2 : Int) (l1 : List (S43)) (l2 : List Int) : Option (Bool) := (erasurelaw35_few.f k l1).bind fun t403 => (if t403 = true then ((erasurelaw35_limit.f a0_2).bind fun bt405 => ((release_Valid.f k a0_0 a0_1 a0_2 l1).bind fun t409 => ((erasureref35_Valid.f k a0_0 a0_1 a0_2 l1).bind fun t410 => (if (t409 == t410) = true then ((erasurelaw35_Groups.f k l2).bind fun t411 => ((release_Publish.f k bt405.1 bt405.2.1 bt405.2.2 1 t411).bind fun t414 => ((release_Valid.f k bt405.1 bt405.2.1 bt405.2.2 t414).bind fun t417 => (if t417 = true then ((erasurelaw35_awake.f k).bind fun t418 => (some t418)) else (some false))))) else (some false))))) else ((erasurelaw35_awake.f k).bind fun t404 => (some t404)))
def erasurelaw35_ReleaseValid.T4 : Bool × List (List Nat × List Nat) := (true, [([], []), ([], []), ([0, 1], [0, 1]), ([], []), ([], []), ([3, 4, 2], [3, 4]), ([2, 5], [2, 5]), ([6, 5], [6]), ([7], [7]), ([7], [7]), ([7], [7]), ([10, 7, 7], [7, 10]), ([9, 11, 11, 7], [7, 9, 11]), ([8, 12, 12, 7], [7, 8, 12]), ([7, 13], [7, 13]), ([14, 13], [14]), ([15, 15], [15]), ([15, 16], [15, 16]), ([17, 16, 0, 1, 2, 3, 4, 5, 6, 7, 8, 9, 10, 11, 12, 13, 14, 15, 16, 17], [17])])
def erasurelaw35_ReleaseValid.B4 : List Nat := [0, 0, 3, 0, 0, 31, 63, 127, 255, 255, 255, 1279, 3839, 8191, 16383, 32767, 65535, 131071, 262143]
theorem erasurelaw35_ReleaseValid.tab4 : rtab .any (opsOf Try.f7 4) = erasurelaw35_ReleaseValid.T4 := by kernel_rfl
theorem erasurelaw35_ReleaseValid.bits4 : waitsOk erasurelaw35_ReleaseValid.T4.2 erasurelaw35_ReleaseValid.B4 = true := by kernel_rfl
set_option maxHeartbeats 8000000 in
set_option maxRecDepth 100000 in
theorem erasurelaw35_ReleaseValid.calls (k : Nat) (a0_0 : ByteArray) (a0_1 : ByteArray) (a0_2 : Int) (A1 : Option Addr) (c1 : Nat) (l1 : List (S43)) (A2 : Option Addr) (c2 : Nat) (l2 : List Int) (r : Bool) (w : World) (hr1 : Kd.C k43 w A1 l1.length l1) (hc1 : l1.length ≤ c1) (hr2 : Kd.C (Kd.int .i64) w A2 l2.length l2) (hc2 : l2.length ≤ c2) (h : erasurelaw35_ReleaseValid.f k a0_0 a0_1 a0_2 l1 l2 = some r) :
  Calls Try.prog 7 #[.agg #[.string a0_0, .string a0_1, .int .i64 a0_2], .slice A1 l1.length c1, .slice A2 l2.length c2] w fun e w' => e = .returned (.bool r) ∧ Below w.heap.size w w' := by
 have hu23 := Try.underlying23
 have HR1 := Aside0.mk hr1
 have HC1 := Aside0.mk hc1
 clear hr1 hc1
 have HR2 := Aside0.mk hr2
 have HC2 := Aside0.mk hc2
 clear hr2 hc2
 have HB := Aside0.mk (Below.refl w.heap.size w)
 have H : ((erasurelaw35_few.f k l1).bind fun t403 => (if t403 = true then ((erasurelaw35_limit.f a0_2).bind fun bt405 => ((release_Valid.f k a0_0 a0_1 a0_2 l1).bind fun t409 => ((erasureref35_Valid.f k a0_0 a0_1 a0_2 l1).bind fun t410 => (if (t409 == t410) = true then ((erasurelaw35_Groups.f k l2).bind fun t411 => ((release_Publish.f k bt405.1 bt405.2.1 bt405.2.2 1 t411).bind fun t414 => ((release_Valid.f k bt405.1 bt405.2.1 bt405.2.2 t414).bind fun t417 => (if t417 = true then ((erasurelaw35_awake.f k).bind fun t418 => (some t418)) else (some false))))) else (some false))))) else ((erasurelaw35_awake.f k).bind fun t404 => (some t404)))) = some r := h
 clear h
 replace H := Option.bind_eq_some_iff.mp H
 obtain ⟨t403, A40, H⟩ := H
 replace H : (if t403 = true then ((erasurelaw35_limit.f a0_2).bind fun bt405 => ((release_Valid.f k a0_0 a0_1 a0_2 l1).bind fun t409 => ((erasureref35_Valid.f k a0_0 a0_1 a0_2 l1).bind fun t410 => (if (t409 == t410) = true then ((erasurelaw35_Groups.f k l2).bind fun t411 => ((release_Publish.f k bt405.1 bt405.2.1 bt405.2.2 1 t411).bind fun t414 => ((release_Valid.f k bt405.1 bt405.2.1 bt405.2.2 t414).bind fun t417 => (if t417 = true then ((erasurelaw35_awake.f k).bind fun t418 => (some t418)) else (some false))))) else (some false))))) else ((erasurelaw35_awake.f k).bind fun t404 => (some t404))) = some r := H
 have A4 := Aside0.mk A40
 clear A40
 by_cases c5 : t403 = true
 ·subst c5
  have H1 : ((erasurelaw35_limit.f a0_2).bind fun bt405 => ((release_Valid.f k a0_0 a0_1 a0_2 l1).bind fun t409 => ((erasureref35_Valid.f k a0_0 a0_1 a0_2 l1).bind fun t410 => (if (t409 == t410) = true then ((erasurelaw35_Groups.f k l2).bind fun t411 => ((release_Publish.f k bt405.1 bt405.2.1 bt405.2.2 1 t411).bind fun t414 => ((release_Valid.f k bt405.1 bt405.2.1 bt405.2.2 t414).bind fun t417 => (if t417 = true then ((erasurelaw35_awake.f k).bind fun t418 => (some t418)) else (some false))))) else (some false))))) = some r := by rw [if_pos rfl] at H; exact H
  clear H
  have H := H1
  clear H1
  replace H := Option.bind_eq_some_iff.mp H
  obtain ⟨⟨t405, t406, t407⟩, A60, H⟩ := H
  replace H : ((release_Valid.f k a0_0 a0_1 a0_2 l1).bind fun t409 => ((erasureref35_Valid.f k a0_0 a0_1 a0_2 l1).bind fun t410 => (if (t409 == t410) = true then ((erasurelaw35_Groups.f k l2).bind fun t411 => ((release_Publish.f k t405 t406 t407 1 t411).bind fun t414 => ((release_Valid.f k t405 t406 t407 t414).bind fun t417 => (if t417 = true then ((erasurelaw35_awake.f k).bind fun t418 => (some t418)) else (some false))))) else (some false)))) = some r := H
  have A6 := Aside0.mk A60
  clear A60
  replace H := Option.bind_eq_some_iff.mp H
  obtain ⟨t409, A70, H⟩ := H
  replace H : ((erasureref35_Valid.f k a0_0 a0_1 a0_2 l1).bind fun t410 => (if (t409 == t410) = true then ((erasurelaw35_Groups.f k l2).bind fun t411 => ((release_Publish.f k t405 t406 t407 1 t411).bind fun t414 => ((release_Valid.f k t405 t406 t407 t414).bind fun t417 => (if t417 = true then ((erasurelaw35_awake.f k).bind fun t418 => (some t418)) else (some false))))) else (some false))) = some r := H
  have A7 := Aside0.mk A70
  clear A70
  replace H := Option.bind_eq_some_iff.mp H
  obtain ⟨t410, A80, H⟩ := H
  replace H : (if (t409 == t410) = true then ((erasurelaw35_Groups.f k l2).bind fun t411 => ((release_Publish.f k t405 t406 t407 1 t411).bind fun t414 => ((release_Valid.f k t405 t406 t407 t414).bind fun t417 => (if t417 = true then ((erasurelaw35_awake.f k).bind fun t418 => (some t418)) else (some false))))) else (some false)) = some r := H
  have A8 := Aside0.mk A80
  clear A80
  by_cases c9 : (t409 == t410) = true
  ·rw [if_pos c9] at H
   have c9b0 : (t409 == t410) = true := c9
   (try (have c9b1 : decide (t409 = t410) = true := by simpa using c9))
   (try (have c9b2 : (t409 == t410) = true := by simpa using c9))
   clear c9
   replace H := Option.bind_eq_some_iff.mp H
   obtain ⟨t411, A100, H⟩ := H
   replace H : ((release_Publish.f k t405 t406 t407 1 t411).bind fun t414 => ((release_Valid.f k t405 t406 t407 t414).bind fun t417 => (if t417 = true then ((erasurelaw35_awake.f k).bind fun t418 => (some t418)) else (some false)))) = some r := H
   have A10 := Aside0.mk A100
   clear A100
   replace H := Option.bind_eq_some_iff.mp H
   obtain ⟨t414, A110, H⟩ := H
   replace H : ((release_Valid.f k t405 t406 t407 t414).bind fun t417 => (if t417 = true then ((erasurelaw35_awake.f k).bind fun t418 => (some t418)) else (some false))) = some r := H
   have A11 := Aside0.mk A110
   clear A110
   replace H := Option.bind_eq_some_iff.mp H
   obtain ⟨t417, A120, H⟩ := H
   replace H : (if t417 = true then ((erasurelaw35_awake.f k).bind fun t418 => (some t418)) else (some false)) = some r := H
   have A12 := Aside0.mk A120
   clear A120
   by_cases c13 : t417 = true
   ·subst c13
    have H1 : ((erasurelaw35_awake.f k).bind fun t418 => (some t418)) = some r := by rw [if_pos rfl] at H; exact H
    clear H
    have H := H1
    clear H1
    replace H := Option.bind_eq_some_iff.mp H
    obtain ⟨t418, A140, H⟩ := H
    replace H : (some t418) = some r := H
    have A14 := Aside0.mk A140
    clear A140
    obtain rfl := Option.some.inj H
    go_enter Try.func7, Try.ntmps7
    try go_wp2_with (first | ((with_reducible refine gate_dst (N := 3) rfl ?_); refine box_event ?hg (N := 3) ?hd (cs := #[.string a0_0, .string a0_1, .int .i64 a0_2]) (t := 23) ?hr ?_; (case hd => rfl); (case hg => rfl); (case hr => first | (go_simp; done) | (go_simp; rfl)); intro gb402 hg w15 hbox hb; have n0_ := Aside0.mk (below_step (by repeat (first | (with_reducible first | exact HB.out | apply below_alloc | apply pw_below_drewN | apply below_drew1) | exact HB.out)) hb); have n1_ := Aside0.mk (hbox); have n2_ := Aside0.mk ((by rw [hg]; exact (below_size (by repeat (first | (with_reducible first | exact HB.out | apply below_alloc | apply pw_below_drewN | apply below_drew1) | exact HB.out))) : w.heap.size ≤ gb402)); have n3_ := Aside0.mk ((by rw [hg]; exact (below_size (by repeat (first | (with_reducible first | exact HB.out | apply below_alloc | apply pw_below_drewN | apply below_drew1) | exact HB.out))) : w.heap.size ≤ gb402)); clear HB; have HB := n0_; have BK402 := n1_; have GW402 := n2_; have GE402 := n3_; clear n0_ n1_ n2_ n3_; clear hb hbox hg) | ((with_reducible refine gate_callee (f := 22) rfl ?_); refine goesL_ (some 9) rfl rfl Try.func22 (by kernel_rfl) rfl #[.slice A1 l1.length c1] rfl (by (try simp only [List.map_toArray, List.map_cons, List.map_nil]); first | done | rfl | (simp only [List.length_drop, List.length_take]; rfl)) ?_; (with_reducible refine (erasurelaw35_few.calls k _ _ l1 true _ ?side1 ?side2 A4.out).mono ?_); (case side1 => repeat (first | exact (Kd.C_below HR1.out HB.out) | (with_reducible refine Kd.C_alloc ?_ _) | (with_reducible refine Kd.C_drewN ?_ _) | (with_reducible refine Kd.C_drew ?_))); (case side2 => exact HC1.out); rintro e w' ⟨rfl, ⟨nd, rfl⟩⟩; refine ⟨_, rfl, ?_⟩; (try (rw [drewN_self w15]; generalize hq_ : World.drewN w15 _ = w15; have n0_ : Aside0 (w15.heap[gb402]? = some (.cells #[.string a0_0, .string a0_1, .int .i64 a0_2] 23 (0, 0))) := ⟨by rw [← hq_]; exact (by (with_reducible repeat (first | refine blk_drewN ?_ _ | refine blk_drew ?_ | refine blk_alloc ?_ _)); exact BK402.out)⟩; have n1_ : Aside0 (Below w.heap.size w w15) := ⟨by rw [← hq_]; exact (by repeat (first | (with_reducible first | exact HB.out | apply below_alloc | apply pw_below_drewN | apply below_drew1 | refine below_set ?_ GE402.out) | exact HB.out))⟩; clear BK402 HB hq_; have BK402 := n0_; have HB := n1_; clear n0_ n1_)); have hcz16_0 : w15.cell? ⟨gb402, 0, none⟩ = some (.string a0_0) := (blk_cell BK402.out 0).trans rfl; have hcz16_1 : w15.cell? ⟨gb402, 1, none⟩ = some (.string a0_1) := (blk_cell BK402.out 1).trans rfl; have hcz16_2 : w15.cell? ⟨gb402, 2, none⟩ = some (.int .i64 a0_2) := (blk_cell BK402.out 2).trans rfl; have hfz16_0 := blk_frozen BK402.out 0; have hfz16_1 := blk_frozen BK402.out 1; have hfz16_2 := blk_frozen BK402.out 2) | ((with_reducible refine gate_callee (f := 17) rfl ?_); refine goesL_ (some 14) rfl rfl Try.func17 (by kernel_rfl) rfl #[.int .i64 a0_2] rfl (by (try simp only [List.map_toArray, List.map_cons, List.map_nil]); first | done | rfl | (simp only [List.length_drop, List.length_take]; rfl)) ?_; (with_reducible refine (erasurelaw35_limit.calls a0_2 t405 t406 t407 _ A6.out).mono ?_); rintro e w17 ⟨rfl, hb⟩; refine ⟨_, rfl, ?_⟩; have n0_ := Aside0.mk (blk_below (g := gb402) (o := .cells #[.string a0_0, .string a0_1, .int .i64 a0_2] 23 (0, 0)) (by (with_reducible repeat (first | refine blk_drewN ?_ _ | refine blk_drew ?_ | refine blk_alloc ?_ _)); exact BK402.out) hb); have n1_ := Aside0.mk (below_step (by repeat (first | (with_reducible first | exact HB.out | apply below_alloc | apply pw_below_drewN | apply below_drew1 | refine below_set ?_ GE402.out) | exact HB.out)) hb); clear BK402; clear HB; have BK402 := n0_; have HB := n1_; clear n0_ n1_; (try clear hb); (try clear hb2); (try clear hk); (try clear hi)) | ((with_reducible refine gate_dst (N := 7) rfl ?_); refine box_event ?hg (N := 7) ?hd (cs := #[.string (⟨#[]⟩ : ByteArray), .string (⟨#[]⟩ : ByteArray), .int .i64 0]) (t := 23) ?hr ?_; (case hd => rfl); (case hg => rfl); (case hr => first | (go_simp; done) | (go_simp; rfl)); intro gb408 hg w18 hbox hb; have n0_ := Aside0.mk (blk_below (g := gb402) (o := .cells #[.string a0_0, .string a0_1, .int .i64 a0_2] 23 (0, 0)) (by (with_reducible repeat (first | refine blk_drewN ?_ _ | refine blk_drew ?_ | refine blk_alloc ?_ _)); exact BK402.out) hb); have n1_ := Aside0.mk (below_step (by repeat (first | (with_reducible first | exact HB.out | apply below_alloc | apply pw_below_drewN | apply below_drew1 | refine below_set ?_ GE402.out) | exact HB.out)) hb); have n2_ := Aside0.mk (hbox); have n3_ := Aside0.mk ((by rw [hg]; exact (below_size (by repeat (first | (with_reducible first | exact HB.out | apply below_alloc | apply pw_below_drewN | apply below_drew1 | refine below_set ?_ GE402.out) | exact HB.out))) : w.heap.size ≤ gb408)); have n4_ := Aside0.mk ((by rw [hg]; exact (below_size (by repeat (first | (with_reducible first | exact HB.out | apply below_alloc | apply pw_below_drewN | apply below_drew1 | refine below_set ?_ GE402.out) | exact HB.out))) : w.heap.size ≤ gb408)); have n5_ := Aside0.mk ((by rw [hg]; exact Nat.ne_of_lt (blk_lt (g := gb402) (o := .cells #[.string a0_0, .string a0_1, .int .i64 a0_2] 23 (0, 0)) (by (with_reducible repeat (first | refine blk_drewN ?_ _ | refine blk_drew ?_ | refine blk_alloc ?_ _)); exact BK402.out)) : gb402 ≠ gb408)); have n6_ := Aside0.mk ((by rw [hg]; exact Nat.ne_of_gt (blk_lt (g := gb402) (o := .cells #[.string a0_0, .string a0_1, .int .i64 a0_2] 23 (0, 0)) (by (with_reducible repeat (first | refine blk_drewN ?_ _ | refine blk_drew ?_ | refine blk_alloc ?_ _)); exact BK402.out)) : gb408 ≠ gb402)); clear BK402; clear HB; have BK402 := n0_; have HB := n1_; have BK408 := n2_; have GW408 := n3_; have GE408 := n4_; have NB402_408 := n5_; have NB408_402 := n6_; clear n0_ n1_ n2_ n3_ n4_ n5_ n6_; clear hb hbox hg; have hnb19 := NB408_402.out; have hnc19 := NB402_408.out; have hcz20_0 : w18.cell? ⟨gb408, 0, none⟩ = some (.string (⟨#[]⟩ : ByteArray)) := (blk_cell BK408.out 0).trans rfl; have hcz20_1 : w18.cell? ⟨gb408, 1, none⟩ = some (.string (⟨#[]⟩ : ByteArray)) := (blk_cell BK408.out 1).trans rfl; have hcz20_2 : w18.cell? ⟨gb408, 2, none⟩ = some (.int .i64 0) := (blk_cell BK408.out 2).trans rfl; have hfz20_0 := blk_frozen BK408.out 0; have hfz20_1 := blk_frozen BK408.out 1; have hfz20_2 := blk_frozen BK408.out 2))
    have n0_ : Aside0 ((((w18.setCell ⟨gb408, 0, none⟩ (.string t405)).setCell ⟨gb408, 1, none⟩ (.string t406)).setCell ⟨gb408, 2, none⟩ (.int .i64 t407)).heap[gb402]? = some (.cells #[.string a0_0, .string a0_1, .int .i64 a0_2] 23 (0, 0))) := ⟨by (with_reducible repeat (first | refine blk_drewN ?_ _ | refine blk_drew ?_ | refine blk_alloc ?_ _)); refine blk_far ?_ NB402_408.out _; (with_reducible repeat (first | refine blk_drewN ?_ _ | refine blk_drew ?_ | refine blk_alloc ?_ _)); refine blk_far ?_ NB402_408.out _; (with_reducible repeat (first | refine blk_drewN ?_ _ | refine blk_drew ?_ | refine blk_alloc ?_ _)); refine blk_far ?_ NB402_408.out _; (with_reducible repeat (first | refine blk_drewN ?_ _ | refine blk_drew ?_ | refine blk_alloc ?_ _)); exact BK402.out⟩
    have n1_ : Aside0 ((((w18.setCell ⟨gb408, 0, none⟩ (.string t405)).setCell ⟨gb408, 1, none⟩ (.string t406)).setCell ⟨gb408, 2, none⟩ (.int .i64 t407)).heap[gb408]? = some (.cells #[.string t405, .string t406, .int .i64 t407] 23 (0, 0))) := ⟨by (with_reducible repeat (first | refine blk_drewN ?_ _ | refine blk_drew ?_ | refine blk_alloc ?_ _)); refine blk_put (cs := #[.string t405, .string t406, .int .i64 0]) ?_ 2 _ rfl; (with_reducible repeat (first | refine blk_drewN ?_ _ | refine blk_drew ?_ | refine blk_alloc ?_ _)); refine blk_put (cs := #[.string t405, .string (⟨#[]⟩ : ByteArray), .int .i64 0]) ?_ 1 _ rfl; (with_reducible repeat (first | refine blk_drewN ?_ _ | refine blk_drew ?_ | refine blk_alloc ?_ _)); refine blk_put (cs := #[.string (⟨#[]⟩ : ByteArray), .string (⟨#[]⟩ : ByteArray), .int .i64 0]) ?_ 0 _ rfl; (with_reducible repeat (first | refine blk_drewN ?_ _ | refine blk_drew ?_ | refine blk_alloc ?_ _)); exact BK408.out⟩
    have n2_ : Aside0 (Below w.heap.size w (((w18.setCell ⟨gb408, 0, none⟩ (.string t405)).setCell ⟨gb408, 1, none⟩ (.string t406)).setCell ⟨gb408, 2, none⟩ (.int .i64 t407))) := ⟨by repeat (first | (with_reducible first | exact HB.out | apply below_alloc | apply pw_below_drewN | apply below_drew1 | refine below_set ?_ GE402.out | refine below_set ?_ GE408.out) | exact HB.out)⟩
    (try clear BK402)
    (try clear BK408)
    (try clear HB)
    generalize (((w18.setCell ⟨gb408, 0, none⟩ (.string t405)).setCell ⟨gb408, 1, none⟩ (.string t406)).setCell ⟨gb408, 2, none⟩ (.int .i64 t407)) = w21 at n0_ n1_ n2_ ⊢
    have BK402 := n0_
    have BK408 := n1_
    have HB := n2_
    clear n0_ n1_ n2_
    have n0_ := Aside0.mk (blk_drew BK402.out)
    have n1_ := Aside0.mk (blk_drew BK408.out)
    have n2_ := Aside0.mk (below_drew1 HB.out)
    clear BK402
    clear BK408
    clear HB
    have BK402 := n0_
    have BK408 := n1_
    have HB := n2_
    clear n0_ n1_ n2_
    refine start_ (n := 19) (S := fun w' => w'.cell? ⟨gb402, 0, none⟩ = some (.string a0_0) ∧ w'.cell? ⟨gb402, 1, none⟩ = some (.string a0_1) ∧ w'.cell? ⟨gb402, 2, none⟩ = some (.int .i64 a0_2) ∧ w'.cell? ⟨gb408, 0, none⟩ = some (.string t405) ∧ w'.cell? ⟨gb408, 1, none⟩ = some (.string t406) ∧ w'.cell? ⟨gb408, 2, none⟩ = some (.int .i64 t407)) (ds := []) #[false, false, false, false, false, false, false, false, false, false, false, false, false, false, false, false, false, false, false] (by kernel_rfl) rfl rfl ⟨(blk_cell BK402.out 0).trans rfl, (blk_cell BK402.out 1).trans rfl, (blk_cell BK402.out 2).trans rfl, (blk_cell BK408.out 0).trans rfl, (blk_cell BK408.out 1).trans rfl, (blk_cell BK408.out 2).trans rfl⟩ (fun hHeld => ?_); refine with_tabW erasurelaw35_ReleaseValid.tab4 erasurelaw35_ReleaseValid.bits4 (fun HT_ HW_ => ?_)
    generalize w21.drew = w22 at BK402 BK408 HB hHeld ⊢
    refine pu (i := 1) (N := some 16) (bl 19 2) (any_of HT_.out (by kernel_rfl)) ?_
    refine pu (i := 4) (N := some 19) (bl 19 18) (any_of HT_.out (by kernel_rfl)) ?_
    refine ta (i := 0) (N := some 15) (bl 19 19) (take_ofW HT_.out HW_.out (by kernel_rfl)) hHeld ?_
    refine ta (i := 3) (N := some 18) (bl 19 27) (take_ofW HT_.out HW_.out (by kernel_rfl)) hHeld ?_
    refine one_ (i := 2) (N := some 17) (bl 19 31) rfl rfl (one_of HT_.out (by kernel_rfl)) (by decide) (fun K hK => ?_)
    refine goes_ Try.func23 (by kernel_rfl) rfl #[.agg #[.string a0_0, .string a0_1, .int .i64 a0_2], .slice A1 l1.length c1] (by rfl) rfl rfl (by (try simp only [List.map_toArray, List.map_cons, List.map_nil]); first | done | rfl | (simp only [List.length_drop, List.length_take]; rfl)) ?_
    with_reducible refine (release_Valid.calls k a0_0 a0_1 a0_2 _ _ l1 t409 _ ?side1 ?side2 A7.out).mono ?_
    (case side1 => repeat (first | exact (Kd.C_below HR1.out HB.out) | (with_reducible refine Kd.C_alloc ?_ _) | (with_reducible refine Kd.C_drewN ?_ _) | (with_reducible refine Kd.C_drew ?_)))
    (case side2 => exact HC1.out)
    rintro e w23 ⟨rfl, hb⟩
    refine ⟨_, rfl, ?_⟩
    have n0_ := Aside0.mk (blk_below (g := gb402) (o := .cells #[.string a0_0, .string a0_1, .int .i64 a0_2] 23 (0, 0)) (by (with_reducible repeat (first | refine blk_drewN ?_ _ | refine blk_drew ?_ | refine blk_alloc ?_ _)); exact BK402.out) hb)
    have n1_ := Aside0.mk (blk_below (g := gb408) (o := .cells #[.string t405, .string t406, .int .i64 t407] 23 (0, 0)) (by (with_reducible repeat (first | refine blk_drewN ?_ _ | refine blk_drew ?_ | refine blk_alloc ?_ _)); exact BK408.out) hb)
    have n2_ := Aside0.mk (below_step (by repeat (first | (with_reducible first | exact HB.out | apply below_alloc | apply pw_below_drewN | apply below_drew1 | refine below_set ?_ GE402.out | refine below_set ?_ GE408.out) | exact HB.out)) hb)
    clear BK402
    clear BK408
    clear HB
    have BK402 := n0_
    have BK408 := n1_
    have HB := n2_
    clear n0_ n1_ n2_
    (try clear hb)
    (try clear hb2)
    (try clear hk)
    (try clear hi)
    refine hK.out _ _ ⟨(blk_cell BK402.out 0).trans rfl, (blk_cell BK402.out 1).trans rfl, (blk_cell BK402.out 2).trans rfl, (blk_cell BK408.out 0).trans rfl, (blk_cell BK408.out 1).trans rfl, (blk_cell BK408.out 2).trans rfl⟩ (fun hHeld => ?_)
    clear hK K
    refine norm_ (a' := ?_) ?_ ?_
    rotate_left
    ·show Act.put _ (some 17) _ = _
     simp only [Act.put, List.setIfInBounds_toArray, List.set_cons_zero, List.set_cons_succ, i64_w, i32_w]
     rfl
    refine one_ (i := 5) (N := some 20) (bl 19 63) rfl rfl (one_of HT_.out (by kernel_rfl)) (by decide) (fun K hK => ?_)
    refine goes_ Try.func24 (by kernel_rfl) rfl #[.agg #[.string a0_0, .string a0_1, .int .i64 a0_2], .slice A1 l1.length c1] (by rfl) rfl rfl (by (try simp only [List.map_toArray, List.map_cons, List.map_nil]); first | done | rfl | (simp only [List.length_drop, List.length_take]; rfl)) ?_
    with_reducible refine (erasureref35_Valid.calls k a0_0 a0_1 a0_2 _ _ l1 t410 _ ?side1 ?side2 A8.out).mono ?_
    (case side1 => repeat (first | exact (Kd.C_below HR1.out HB.out) | (with_reducible refine Kd.C_alloc ?_ _) | (with_reducible refine Kd.C_drewN ?_ _) | (with_reducible refine Kd.C_drew ?_)))
    (case side2 => exact HC1.out)
    rintro e w24 ⟨rfl, hb⟩
    refine ⟨_, rfl, ?_⟩
    have n0_ := Aside0.mk (blk_below (g := gb402) (o := .cells #[.string a0_0, .string a0_1, .int .i64 a0_2] 23 (0, 0)) (by (with_reducible repeat (first | refine blk_drewN ?_ _ | refine blk_drew ?_ | refine blk_alloc ?_ _)); exact BK402.out) hb)
    have n1_ := Aside0.mk (blk_below (g := gb408) (o := .cells #[.string t405, .string t406, .int .i64 t407] 23 (0, 0)) (by (with_reducible repeat (first | refine blk_drewN ?_ _ | refine blk_drew ?_ | refine blk_alloc ?_ _)); exact BK408.out) hb)
    have n2_ := Aside0.mk (below_step (by repeat (first | (with_reducible first | exact HB.out | apply below_alloc | apply pw_below_drewN | apply below_drew1 | refine below_set ?_ GE402.out | refine below_set ?_ GE408.out) | exact HB.out)) hb)
    clear BK402
    clear BK408
    clear HB
    have BK402 := n0_
    have BK408 := n1_
    have HB := n2_
    clear n0_ n1_ n2_
    (try clear hb)
    (try clear hb2)
    (try clear hk)
    (try clear hi)
    refine hK.out _ _ ⟨(blk_cell BK402.out 0).trans rfl, (blk_cell BK402.out 1).trans rfl, (blk_cell BK402.out 2).trans rfl, (blk_cell BK408.out 0).trans rfl, (blk_cell BK408.out 1).trans rfl, (blk_cell BK408.out 2).trans rfl⟩ (fun hHeld => ?_)
    clear hK K
    refine norm_ (a' := ?_) ?_ ?_
    rotate_left
    ·show Act.put _ (some 20) _ = _
     simp only [Act.put, List.setIfInBounds_toArray, List.set_cons_zero, List.set_cons_succ, i64_w, i32_w]
     rfl
    refine pu (i := 6) (N := some 21) (bl 19 127) (any_of HT_.out (by kernel_rfl)) ?_
    refine pu (i := 7) (N := some 22) (bl 19 255) (any_of HT_.out (by kernel_rfl)) ?_
    refine pu (i := 10) (N := some 25) (bl 19 1279) (any_of HT_.out (by kernel_rfl)) ?_
    refine ta (i := 8) (N := some 23) (bl 19 1535) (take_ofW HT_.out HW_.out (by kernel_rfl)) hHeld ?_
    refine ta (i := 9) (N := some 24) (bl 19 2047) (take_ofW HT_.out HW_.out (by kernel_rfl)) hHeld ?_
    refine one_ (i := 11) (N := some 26) (bl 19 4095) rfl rfl (one_of HT_.out (by kernel_rfl)) (by decide) (fun K hK => ?_)
    refine goes_ Try.func18 (by kernel_rfl) rfl #[.slice A2 l2.length c2] (by rfl) rfl rfl (by (try simp only [List.map_toArray, List.map_cons, List.map_nil]); first | done | rfl | (simp only [List.length_drop, List.length_take]; rfl)) ?_
    with_reducible refine (erasurelaw35_Groups.calls k _ _ l2 t411 _ ?side1 ?side2 A10.out).mono ?_
    (case side1 => repeat (first | exact (Kd.C_below HR2.out HB.out) | (with_reducible refine Kd.C_alloc ?_ _) | (with_reducible refine Kd.C_drewN ?_ _) | (with_reducible refine Kd.C_drew ?_)))
    (case side2 => exact HC2.out)
    rintro e w25 ⟨v412, rfl, ho0, hb⟩
    refine ⟨_, rfl, ?_⟩
    have n0_ := Aside0.mk (Kd.S_lower ho0 (below_size (by repeat (first | (with_reducible first | exact HB.out | apply below_alloc | apply pw_below_drewN | apply below_drew1 | refine below_set ?_ GE402.out | refine below_set ?_ GE408.out) | exact HB.out))))
    have n1_ := Aside0.mk (blk_below (g := gb402) (o := .cells #[.string a0_0, .string a0_1, .int .i64 a0_2] 23 (0, 0)) (by (with_reducible repeat (first | refine blk_drewN ?_ _ | refine blk_drew ?_ | refine blk_alloc ?_ _)); exact BK402.out) hb)
    have n2_ := Aside0.mk (blk_below (g := gb408) (o := .cells #[.string t405, .string t406, .int .i64 t407] 23 (0, 0)) (by (with_reducible repeat (first | refine blk_drewN ?_ _ | refine blk_drew ?_ | refine blk_alloc ?_ _)); exact BK408.out) hb)
    have n3_ := Aside0.mk (below_step (by repeat (first | (with_reducible first | exact HB.out | apply below_alloc | apply pw_below_drewN | apply below_drew1 | refine below_set ?_ GE402.out | refine below_set ?_ GE408.out) | exact HB.out)) hb)
    clear BK402
    clear BK408
    clear HB
    have HO413 := n0_
    have BK402 := n1_
    have BK408 := n2_
    have HB := n3_
    clear n0_ n1_ n2_ n3_
    (try clear hb)
    (try clear hb2)
    (try clear hk)
    (try clear hi)
    (try clear ho0)
    obtain ⟨Ao26, co26, eo26⟩ := Kd.S_slice HO413.out
    (first | subst eo26 | (injection eo26 with f1_ f2_ f3_; have f4_ := f1_.symm; have f5_ := f3_.symm; clear f1_ f2_ f3_; subst f4_; subst f5_))
    refine hK.out _ _ ⟨(blk_cell BK402.out 0).trans rfl, (blk_cell BK402.out 1).trans rfl, (blk_cell BK402.out 2).trans rfl, (blk_cell BK408.out 0).trans rfl, (blk_cell BK408.out 1).trans rfl, (blk_cell BK408.out 2).trans rfl⟩ (fun hHeld => ?_)
    clear hK K
    refine norm_ (a' := ?_) ?_ ?_
    rotate_left
    ·show Act.put _ (some 26) _ = _
     simp only [Act.put, List.setIfInBounds_toArray, List.set_cons_zero, List.set_cons_succ, i64_w, i32_w]
     rfl
    refine one_ (i := 12) (N := some 27) (bl 19 8191) rfl rfl (one_of HT_.out (by kernel_rfl)) (by decide) (fun K hK => ?_)
    refine goes_ Try.func15 (by kernel_rfl) rfl #[.agg #[.string t405, .string t406, .int .i64 t407], .int .i64 1, .slice Ao26 t411.length co26] (by rfl) rfl rfl (by (try simp only [List.map_toArray, List.map_cons, List.map_nil]); first | done | rfl | (simp only [List.length_drop, List.length_take]; rfl)) ?_
    with_reducible refine (release_Publish.calls k t405 t406 t407 1 _ _ t411 t414 _ ?side1 ?side2 A11.out).mono ?_
    (case side1 => repeat (first | exact (Kd.S_reads' HO413.out).2.2 | (with_reducible refine Kd.C_alloc ?_ _) | (with_reducible refine Kd.C_drewN ?_ _) | (with_reducible refine Kd.C_drew ?_)))
    (case side2 => exact (Kd.S_reads' HO413.out).2.1)
    rintro e w27 ⟨v415, rfl, ho0, hb⟩
    refine ⟨_, rfl, ?_⟩
    have n0_ := Aside0.mk (Kd.S_below (by (with_reducible repeat (first | apply Kd.S_alloc | apply Kd.S_drewN | apply Kd.S_drew)); exact HO413.out) hb)
    have n1_ := Aside0.mk (Kd.V_lower (Kd.V_mono (ok' := fun k_ => some k_ ≠ (.slice Ao26 t411.length co26 : Value).ownBlock ∧ k_ ≠ gb402 ∧ k_ ≠ gb408) ho0 (fun k_ hk_ => ⟨(Kd.fresh' (Kd.S_lt (by (with_reducible repeat (first | apply Kd.S_alloc | apply Kd.S_drewN | apply Kd.S_drew)); exact HO413.out)) k_ hk_), (Kd.freshB (g := gb402) (o := .cells #[.string a0_0, .string a0_1, .int .i64 a0_2] 23 (0, 0)) (by (with_reducible repeat (first | refine blk_drewN ?_ _ | refine blk_drew ?_ | refine blk_alloc ?_ _)); exact BK402.out) k_ hk_), (Kd.freshB (g := gb408) (o := .cells #[.string t405, .string t406, .int .i64 t407] 23 (0, 0)) (by (with_reducible repeat (first | refine blk_drewN ?_ _ | refine blk_drew ?_ | refine blk_alloc ?_ _)); exact BK408.out) k_ hk_)⟩)) (below_size (by repeat (first | (with_reducible first | exact HB.out | apply below_alloc | apply pw_below_drewN | apply below_drew1 | refine below_set ?_ GE402.out | refine below_set ?_ GE408.out) | exact HB.out))))
    have n2_ := Aside0.mk (blk_below (g := gb402) (o := .cells #[.string a0_0, .string a0_1, .int .i64 a0_2] 23 (0, 0)) (by (with_reducible repeat (first | refine blk_drewN ?_ _ | refine blk_drew ?_ | refine blk_alloc ?_ _)); exact BK402.out) hb)
    have n3_ := Aside0.mk (blk_below (g := gb408) (o := .cells #[.string t405, .string t406, .int .i64 t407] 23 (0, 0)) (by (with_reducible repeat (first | refine blk_drewN ?_ _ | refine blk_drew ?_ | refine blk_alloc ?_ _)); exact BK408.out) hb)
    have n4_ := Aside0.mk (below_step (by repeat (first | (with_reducible first | exact HB.out | apply below_alloc | apply pw_below_drewN | apply below_drew1 | refine below_set ?_ GE402.out | refine below_set ?_ GE408.out) | exact HB.out)) hb)
    clear HO413
    clear BK402
    clear BK408
    clear HB
    have HO413 := n0_
    have HO416 := n1_
    have BK402 := n2_
    have BK408 := n3_
    have HB := n4_
    clear n0_ n1_ n2_ n3_ n4_
    (try clear hb)
    (try clear hb2)
    (try clear hk)
    (try clear hi)
    (try clear ho0)
    obtain ⟨Ao28, co28, eo28⟩ := Kd.V_slice HO416.out
    (first | subst eo28 | (injection eo28 with f1_ f2_ f3_; have f4_ := f1_.symm; have f5_ := f3_.symm; clear f1_ f2_ f3_; subst f4_; subst f5_))
    refine hK.out _ _ ⟨(blk_cell BK402.out 0).trans rfl, (blk_cell BK402.out 1).trans rfl, (blk_cell BK402.out 2).trans rfl, (blk_cell BK408.out 0).trans rfl, (blk_cell BK408.out 1).trans rfl, (blk_cell BK408.out 2).trans rfl⟩ (fun hHeld => ?_)
    clear hK K
    refine norm_ (a' := ?_) ?_ ?_
    rotate_left
    ·show Act.put _ (some 27) _ = _
     simp only [Act.put, List.setIfInBounds_toArray, List.set_cons_zero, List.set_cons_succ, i64_w, i32_w]
     rfl
    refine one_ (i := 13) (N := some 28) (bl 19 16383) rfl rfl (one_of HT_.out (by kernel_rfl)) (by decide) (fun K hK => ?_)
    refine goes_ Try.func23 (by kernel_rfl) rfl #[.agg #[.string t405, .string t406, .int .i64 t407], .slice Ao28 t414.length co28] (by rfl) rfl rfl (by (try simp only [List.map_toArray, List.map_cons, List.map_nil]); first | done | rfl | (simp only [List.length_drop, List.length_take]; rfl)) ?_
    with_reducible refine (release_Valid.calls k t405 t406 t407 _ _ t414 true _ ?side1 ?side2 A12.out).mono ?_
    (case side1 => repeat (first | exact (Kd.V_reads' HO416.out).2.2 | (with_reducible refine Kd.C_alloc ?_ _) | (with_reducible refine Kd.C_drewN ?_ _) | (with_reducible refine Kd.C_drew ?_)))
    (case side2 => exact (Kd.V_reads' HO416.out).2.1)
    rintro e w29 ⟨rfl, hb⟩
    refine ⟨_, rfl, ?_⟩
    have n0_ := Aside0.mk (Kd.S_below (by (with_reducible repeat (first | apply Kd.S_alloc | apply Kd.S_drewN | apply Kd.S_drew)); exact HO413.out) hb)
    have n1_ := Aside0.mk (Kd.V_below (by (with_reducible repeat (first | apply Kd.V_alloc | apply Kd.V_drewN | apply Kd.V_drew)); exact HO416.out) hb)
    have n2_ := Aside0.mk (blk_below (g := gb402) (o := .cells #[.string a0_0, .string a0_1, .int .i64 a0_2] 23 (0, 0)) (by (with_reducible repeat (first | refine blk_drewN ?_ _ | refine blk_drew ?_ | refine blk_alloc ?_ _)); exact BK402.out) hb)
    have n3_ := Aside0.mk (blk_below (g := gb408) (o := .cells #[.string t405, .string t406, .int .i64 t407] 23 (0, 0)) (by (with_reducible repeat (first | refine blk_drewN ?_ _ | refine blk_drew ?_ | refine blk_alloc ?_ _)); exact BK408.out) hb)
    have n4_ := Aside0.mk (below_step (by repeat (first | (with_reducible first | exact HB.out | apply below_alloc | apply pw_below_drewN | apply below_drew1 | refine below_set ?_ GE402.out | refine below_set ?_ GE408.out) | exact HB.out)) hb)
    clear HO413
    clear HO416
    clear BK402
    clear BK408
    clear HB
    have HO413 := n0_
    have HO416 := n1_
    have BK402 := n2_
    have BK408 := n3_
    have HB := n4_
    clear n0_ n1_ n2_ n3_ n4_
    (try clear hb)
    (try clear hb2)
    (try clear hk)
    (try clear hi)
    refine hK.out _ _ ⟨(blk_cell BK402.out 0).trans rfl, (blk_cell BK402.out 1).trans rfl, (blk_cell BK402.out 2).trans rfl, (blk_cell BK408.out 0).trans rfl, (blk_cell BK408.out 1).trans rfl, (blk_cell BK408.out 2).trans rfl⟩ (fun hHeld => ?_)
    clear hK K
    refine norm_ (a' := ?_) ?_ ?_
    rotate_left
    ·show Act.put _ (some 28) _ = _
     simp only [Act.put, List.setIfInBounds_toArray, List.set_cons_zero, List.set_cons_succ, i64_w, i32_w]
     rfl
    refine pu (i := 14) (N := some 29) (bl 19 32767) (any_of HT_.out (by kernel_rfl)) ?_
    refine pu (i := 15) (N := some 30) (bl 19 65535) (any_of HT_.out (by kernel_rfl)) ?_
    refine one_ (i := 16) (N := some 31) (bl 19 131071) rfl rfl (one_of HT_.out (by kernel_rfl)) (by decide) (fun K hK => ?_)
    refine goes_ Try.func12 (by kernel_rfl) rfl #[] (by rfl) rfl rfl (by (try simp only [List.map_toArray, List.map_cons, List.map_nil]); first | done | rfl | (simp only [List.length_drop, List.length_take]; rfl)) ?_
    with_reducible refine (erasurelaw35_awake.calls k  t418 _ A14.out).mono ?_
    rintro e w30 ⟨rfl, hb⟩
    refine ⟨_, rfl, ?_⟩
    have n0_ := Aside0.mk (Kd.S_below (by (with_reducible repeat (first | apply Kd.S_alloc | apply Kd.S_drewN | apply Kd.S_drew)); exact HO413.out) hb)
    have n1_ := Aside0.mk (Kd.V_below (by (with_reducible repeat (first | apply Kd.V_alloc | apply Kd.V_drewN | apply Kd.V_drew)); exact HO416.out) hb)
    have n2_ := Aside0.mk (blk_below (g := gb402) (o := .cells #[.string a0_0, .string a0_1, .int .i64 a0_2] 23 (0, 0)) (by (with_reducible repeat (first | refine blk_drewN ?_ _ | refine blk_drew ?_ | refine blk_alloc ?_ _)); exact BK402.out) hb)
    have n3_ := Aside0.mk (blk_below (g := gb408) (o := .cells #[.string t405, .string t406, .int .i64 t407] 23 (0, 0)) (by (with_reducible repeat (first | refine blk_drewN ?_ _ | refine blk_drew ?_ | refine blk_alloc ?_ _)); exact BK408.out) hb)
    have n4_ := Aside0.mk (below_step (by repeat (first | (with_reducible first | exact HB.out | apply below_alloc | apply pw_below_drewN | apply below_drew1 | refine below_set ?_ GE402.out | refine below_set ?_ GE408.out) | exact HB.out)) hb)
    clear HO413
    clear HO416
    clear BK402
    clear BK408
    clear HB
    have HO413 := n0_
    have HO416 := n1_
    have BK402 := n2_
    have BK408 := n3_
    have HB := n4_
    clear n0_ n1_ n2_ n3_ n4_
    (try clear hb)
    (try clear hb2)
    (try clear hk)
    (try clear hi)
    refine hK.out _ _ ⟨(blk_cell BK402.out 0).trans rfl, (blk_cell BK402.out 1).trans rfl, (blk_cell BK402.out 2).trans rfl, (blk_cell BK408.out 0).trans rfl, (blk_cell BK408.out 1).trans rfl, (blk_cell BK408.out 2).trans rfl⟩ (fun hHeld => ?_)
    clear hK K
    refine norm_ (a' := ?_) ?_ ?_
    rotate_left
    ·show Act.put _ (some 31) _ = _
     simp only [Act.put, List.setIfInBounds_toArray, List.set_cons_zero, List.set_cons_succ, i64_w, i32_w]
     rfl
    refine pu (i := 17) (N := some 32) (bl 19 262143) (any_of HT_.out (by kernel_rfl)) ?_
    refine pu (i := 18) (N := some 6) (bl 19 524287) (any_of HT_.out (by kernel_rfl)) ?_
    refine done_ (done_of HT_.out (by kernel_rfl)) ?_
    try go_wp2
    go_ret
    exact ⟨by first | rfl | (simp [errW_none, errW_some] <;> rfl) | (simp [*, errW_none, errW_some] <;> rfl), by repeat (first | (with_reducible first | exact HB.out | apply below_alloc | apply pw_below_drewN | apply below_drew1 | refine below_set ?_ GE402.out | refine below_set ?_ GE408.out) | exact HB.out)⟩
   ·replace c13 := Bool.eq_false_iff.mpr c13
    subst c13
    have H1 : (some false) = some r := by rw [if_neg (show ¬ (false = true) by decide)] at H; exact H
    clear H
    have H := H1
    clear H1
    obtain rfl := Option.some.inj H
    go_enter Try.func7, Try.ntmps7
    try go_wp2_with (first | ((with_reducible refine gate_dst (N := 3) rfl ?_); refine box_event ?hg (N := 3) ?hd (cs := #[.string a0_0, .string a0_1, .int .i64 a0_2]) (t := 23) ?hr ?_; (case hd => rfl); (case hg => rfl); (case hr => first | (go_simp; done) | (go_simp; rfl)); intro gb402 hg w31 hbox hb; have n0_ := Aside0.mk (below_step (by repeat (first | (with_reducible first | exact HB.out | apply below_alloc | apply pw_below_drewN | apply below_drew1) | exact HB.out)) hb); have n1_ := Aside0.mk (hbox); have n2_ := Aside0.mk ((by rw [hg]; exact (below_size (by repeat (first | (with_reducible first | exact HB.out | apply below_alloc | apply pw_below_drewN | apply below_drew1) | exact HB.out))) : w.heap.size ≤ gb402)); have n3_ := Aside0.mk ((by rw [hg]; exact (below_size (by repeat (first | (with_reducible first | exact HB.out | apply below_alloc | apply pw_below_drewN | apply below_drew1) | exact HB.out))) : w.heap.size ≤ gb402)); clear HB; have HB := n0_; have BK402 := n1_; have GW402 := n2_; have GE402 := n3_; clear n0_ n1_ n2_ n3_; clear hb hbox hg) | ((with_reducible refine gate_callee (f := 22) rfl ?_); refine goesL_ (some 9) rfl rfl Try.func22 (by kernel_rfl) rfl #[.slice A1 l1.length c1] rfl (by (try simp only [List.map_toArray, List.map_cons, List.map_nil]); first | done | rfl | (simp only [List.length_drop, List.length_take]; rfl)) ?_; (with_reducible refine (erasurelaw35_few.calls k _ _ l1 true _ ?side1 ?side2 A4.out).mono ?_); (case side1 => repeat (first | exact (Kd.C_below HR1.out HB.out) | (with_reducible refine Kd.C_alloc ?_ _) | (with_reducible refine Kd.C_drewN ?_ _) | (with_reducible refine Kd.C_drew ?_))); (case side2 => exact HC1.out); rintro e w' ⟨rfl, ⟨nd, rfl⟩⟩; refine ⟨_, rfl, ?_⟩; (try (rw [drewN_self w31]; generalize hq_ : World.drewN w31 _ = w31; have n0_ : Aside0 (w31.heap[gb402]? = some (.cells #[.string a0_0, .string a0_1, .int .i64 a0_2] 23 (0, 0))) := ⟨by rw [← hq_]; exact (by (with_reducible repeat (first | refine blk_drewN ?_ _ | refine blk_drew ?_ | refine blk_alloc ?_ _)); exact BK402.out)⟩; have n1_ : Aside0 (Below w.heap.size w w31) := ⟨by rw [← hq_]; exact (by repeat (first | (with_reducible first | exact HB.out | apply below_alloc | apply pw_below_drewN | apply below_drew1 | refine below_set ?_ GE402.out) | exact HB.out))⟩; clear BK402 HB hq_; have BK402 := n0_; have HB := n1_; clear n0_ n1_)); have hcz32_0 : w31.cell? ⟨gb402, 0, none⟩ = some (.string a0_0) := (blk_cell BK402.out 0).trans rfl; have hcz32_1 : w31.cell? ⟨gb402, 1, none⟩ = some (.string a0_1) := (blk_cell BK402.out 1).trans rfl; have hcz32_2 : w31.cell? ⟨gb402, 2, none⟩ = some (.int .i64 a0_2) := (blk_cell BK402.out 2).trans rfl; have hfz32_0 := blk_frozen BK402.out 0; have hfz32_1 := blk_frozen BK402.out 1; have hfz32_2 := blk_frozen BK402.out 2) | ((with_reducible refine gate_callee (f := 17) rfl ?_); refine goesL_ (some 14) rfl rfl Try.func17 (by kernel_rfl) rfl #[.int .i64 a0_2] rfl (by (try simp only [List.map_toArray, List.map_cons, List.map_nil]); first | done | rfl | (simp only [List.length_drop, List.length_take]; rfl)) ?_; (with_reducible refine (erasurelaw35_limit.calls a0_2 t405 t406 t407 _ A6.out).mono ?_); rintro e w33 ⟨rfl, hb⟩; refine ⟨_, rfl, ?_⟩; have n0_ := Aside0.mk (blk_below (g := gb402) (o := .cells #[.string a0_0, .string a0_1, .int .i64 a0_2] 23 (0, 0)) (by (with_reducible repeat (first | refine blk_drewN ?_ _ | refine blk_drew ?_ | refine blk_alloc ?_ _)); exact BK402.out) hb); have n1_ := Aside0.mk (below_step (by repeat (first | (with_reducible first | exact HB.out | apply below_alloc | apply pw_below_drewN | apply below_drew1 | refine below_set ?_ GE402.out) | exact HB.out)) hb); clear BK402; clear HB; have BK402 := n0_; have HB := n1_; clear n0_ n1_; (try clear hb); (try clear hb2); (try clear hk); (try clear hi)) | ((with_reducible refine gate_dst (N := 7) rfl ?_); refine box_event ?hg (N := 7) ?hd (cs := #[.string (⟨#[]⟩ : ByteArray), .string (⟨#[]⟩ : ByteArray), .int .i64 0]) (t := 23) ?hr ?_; (case hd => rfl); (case hg => rfl); (case hr => first | (go_simp; done) | (go_simp; rfl)); intro gb408 hg w34 hbox hb; have n0_ := Aside0.mk (blk_below (g := gb402) (o := .cells #[.string a0_0, .string a0_1, .int .i64 a0_2] 23 (0, 0)) (by (with_reducible repeat (first | refine blk_drewN ?_ _ | refine blk_drew ?_ | refine blk_alloc ?_ _)); exact BK402.out) hb); have n1_ := Aside0.mk (below_step (by repeat (first | (with_reducible first | exact HB.out | apply below_alloc | apply pw_below_drewN | apply below_drew1 | refine below_set ?_ GE402.out) | exact HB.out)) hb); have n2_ := Aside0.mk (hbox); have n3_ := Aside0.mk ((by rw [hg]; exact (below_size (by repeat (first | (with_reducible first | exact HB.out | apply below_alloc | apply pw_below_drewN | apply below_drew1 | refine below_set ?_ GE402.out) | exact HB.out))) : w.heap.size ≤ gb408)); have n4_ := Aside0.mk ((by rw [hg]; exact (below_size (by repeat (first | (with_reducible first | exact HB.out | apply below_alloc | apply pw_below_drewN | apply below_drew1 | refine below_set ?_ GE402.out) | exact HB.out))) : w.heap.size ≤ gb408)); have n5_ := Aside0.mk ((by rw [hg]; exact Nat.ne_of_lt (blk_lt (g := gb402) (o := .cells #[.string a0_0, .string a0_1, .int .i64 a0_2] 23 (0, 0)) (by (with_reducible repeat (first | refine blk_drewN ?_ _ | refine blk_drew ?_ | refine blk_alloc ?_ _)); exact BK402.out)) : gb402 ≠ gb408)); have n6_ := Aside0.mk ((by rw [hg]; exact Nat.ne_of_gt (blk_lt (g := gb402) (o := .cells #[.string a0_0, .string a0_1, .int .i64 a0_2] 23 (0, 0)) (by (with_reducible repeat (first | refine blk_drewN ?_ _ | refine blk_drew ?_ | refine blk_alloc ?_ _)); exact BK402.out)) : gb408 ≠ gb402)); clear BK402; clear HB; have BK402 := n0_; have HB := n1_; have BK408 := n2_; have GW408 := n3_; have GE408 := n4_; have NB402_408 := n5_; have NB408_402 := n6_; clear n0_ n1_ n2_ n3_ n4_ n5_ n6_; clear hb hbox hg; have hnb35 := NB408_402.out; have hnc35 := NB402_408.out; have hcz36_0 : w34.cell? ⟨gb408, 0, none⟩ = some (.string (⟨#[]⟩ : ByteArray)) := (blk_cell BK408.out 0).trans rfl; have hcz36_1 : w34.cell? ⟨gb408, 1, none⟩ = some (.string (⟨#[]⟩ : ByteArray)) := (blk_cell BK408.out 1).trans rfl; have hcz36_2 : w34.cell? ⟨gb408, 2, none⟩ = some (.int .i64 0) := (blk_cell BK408.out 2).trans rfl; have hfz36_0 := blk_frozen BK408.out 0; have hfz36_1 := blk_frozen BK408.out 1; have hfz36_2 := blk_frozen BK408.out 2))
    have n0_ : Aside0 ((((w34.setCell ⟨gb408, 0, none⟩ (.string t405)).setCell ⟨gb408, 1, none⟩ (.string t406)).setCell ⟨gb408, 2, none⟩ (.int .i64 t407)).heap[gb402]? = some (.cells #[.string a0_0, .string a0_1, .int .i64 a0_2] 23 (0, 0))) := ⟨by (with_reducible repeat (first | refine blk_drewN ?_ _ | refine blk_drew ?_ | refine blk_alloc ?_ _)); refine blk_far ?_ NB402_408.out _; (with_reducible repeat (first | refine blk_drewN ?_ _ | refine blk_drew ?_ | refine blk_alloc ?_ _)); refine blk_far ?_ NB402_408.out _; (with_reducible repeat (first | refine blk_drewN ?_ _ | refine blk_drew ?_ | refine blk_alloc ?_ _)); refine blk_far ?_ NB402_408.out _; (with_reducible repeat (first | refine blk_drewN ?_ _ | refine blk_drew ?_ | refine blk_alloc ?_ _)); exact BK402.out⟩
    have n1_ : Aside0 ((((w34.setCell ⟨gb408, 0, none⟩ (.string t405)).setCell ⟨gb408, 1, none⟩ (.string t406)).setCell ⟨gb408, 2, none⟩ (.int .i64 t407)).heap[gb408]? = some (.cells #[.string t405, .string t406, .int .i64 t407] 23 (0, 0))) := ⟨by (with_reducible repeat (first | refine blk_drewN ?_ _ | refine blk_drew ?_ | refine blk_alloc ?_ _)); refine blk_put (cs := #[.string t405, .string t406, .int .i64 0]) ?_ 2 _ rfl; (with_reducible repeat (first | refine blk_drewN ?_ _ | refine blk_drew ?_ | refine blk_alloc ?_ _)); refine blk_put (cs := #[.string t405, .string (⟨#[]⟩ : ByteArray), .int .i64 0]) ?_ 1 _ rfl; (with_reducible repeat (first | refine blk_drewN ?_ _ | refine blk_drew ?_ | refine blk_alloc ?_ _)); refine blk_put (cs := #[.string (⟨#[]⟩ : ByteArray), .string (⟨#[]⟩ : ByteArray), .int .i64 0]) ?_ 0 _ rfl; (with_reducible repeat (first | refine blk_drewN ?_ _ | refine blk_drew ?_ | refine blk_alloc ?_ _)); exact BK408.out⟩
    have n2_ : Aside0 (Below w.heap.size w (((w34.setCell ⟨gb408, 0, none⟩ (.string t405)).setCell ⟨gb408, 1, none⟩ (.string t406)).setCell ⟨gb408, 2, none⟩ (.int .i64 t407))) := ⟨by repeat (first | (with_reducible first | exact HB.out | apply below_alloc | apply pw_below_drewN | apply below_drew1 | refine below_set ?_ GE402.out | refine below_set ?_ GE408.out) | exact HB.out)⟩
    (try clear BK402)
    (try clear BK408)
    (try clear HB)
    generalize (((w34.setCell ⟨gb408, 0, none⟩ (.string t405)).setCell ⟨gb408, 1, none⟩ (.string t406)).setCell ⟨gb408, 2, none⟩ (.int .i64 t407)) = w37 at n0_ n1_ n2_ ⊢
    have BK402 := n0_
    have BK408 := n1_
    have HB := n2_
    clear n0_ n1_ n2_
    have n0_ := Aside0.mk (blk_drew BK402.out)
    have n1_ := Aside0.mk (blk_drew BK408.out)
    have n2_ := Aside0.mk (below_drew1 HB.out)
    clear BK402
    clear BK408
    clear HB
    have BK402 := n0_
    have BK408 := n1_
    have HB := n2_
    clear n0_ n1_ n2_
    refine start_ (n := 19) (S := fun w' => w'.cell? ⟨gb402, 0, none⟩ = some (.string a0_0) ∧ w'.cell? ⟨gb402, 1, none⟩ = some (.string a0_1) ∧ w'.cell? ⟨gb402, 2, none⟩ = some (.int .i64 a0_2) ∧ w'.cell? ⟨gb408, 0, none⟩ = some (.string t405) ∧ w'.cell? ⟨gb408, 1, none⟩ = some (.string t406) ∧ w'.cell? ⟨gb408, 2, none⟩ = some (.int .i64 t407)) (ds := []) #[false, false, false, false, false, false, false, false, false, false, false, false, false, false, false, false, false, false, false] (by kernel_rfl) rfl rfl ⟨(blk_cell BK402.out 0).trans rfl, (blk_cell BK402.out 1).trans rfl, (blk_cell BK402.out 2).trans rfl, (blk_cell BK408.out 0).trans rfl, (blk_cell BK408.out 1).trans rfl, (blk_cell BK408.out 2).trans rfl⟩ (fun hHeld => ?_); refine with_tabW erasurelaw35_ReleaseValid.tab4 erasurelaw35_ReleaseValid.bits4 (fun HT_ HW_ => ?_)
    generalize w37.drew = w38 at BK402 BK408 HB hHeld ⊢
    refine pu (i := 1) (N := some 16) (bl 19 2) (any_of HT_.out (by kernel_rfl)) ?_
    refine pu (i := 4) (N := some 19) (bl 19 18) (any_of HT_.out (by kernel_rfl)) ?_
    refine ta (i := 0) (N := some 15) (bl 19 19) (take_ofW HT_.out HW_.out (by kernel_rfl)) hHeld ?_
    refine ta (i := 3) (N := some 18) (bl 19 27) (take_ofW HT_.out HW_.out (by kernel_rfl)) hHeld ?_
    refine one_ (i := 2) (N := some 17) (bl 19 31) rfl rfl (one_of HT_.out (by kernel_rfl)) (by decide) (fun K hK => ?_)
    refine goes_ Try.func23 (by kernel_rfl) rfl #[.agg #[.string a0_0, .string a0_1, .int .i64 a0_2], .slice A1 l1.length c1] (by rfl) rfl rfl (by (try simp only [List.map_toArray, List.map_cons, List.map_nil]); first | done | rfl | (simp only [List.length_drop, List.length_take]; rfl)) ?_
    with_reducible refine (release_Valid.calls k a0_0 a0_1 a0_2 _ _ l1 t409 _ ?side1 ?side2 A7.out).mono ?_
    (case side1 => repeat (first | exact (Kd.C_below HR1.out HB.out) | (with_reducible refine Kd.C_alloc ?_ _) | (with_reducible refine Kd.C_drewN ?_ _) | (with_reducible refine Kd.C_drew ?_)))
    (case side2 => exact HC1.out)
    rintro e w39 ⟨rfl, hb⟩
    refine ⟨_, rfl, ?_⟩
    have n0_ := Aside0.mk (blk_below (g := gb402) (o := .cells #[.string a0_0, .string a0_1, .int .i64 a0_2] 23 (0, 0)) (by (with_reducible repeat (first | refine blk_drewN ?_ _ | refine blk_drew ?_ | refine blk_alloc ?_ _)); exact BK402.out) hb)
    have n1_ := Aside0.mk (blk_below (g := gb408) (o := .cells #[.string t405, .string t406, .int .i64 t407] 23 (0, 0)) (by (with_reducible repeat (first | refine blk_drewN ?_ _ | refine blk_drew ?_ | refine blk_alloc ?_ _)); exact BK408.out) hb)
    have n2_ := Aside0.mk (below_step (by repeat (first | (with_reducible first | exact HB.out | apply below_alloc | apply pw_below_drewN | apply below_drew1 | refine below_set ?_ GE402.out | refine below_set ?_ GE408.out) | exact HB.out)) hb)
    clear BK402
    clear BK408
    clear HB
    have BK402 := n0_
    have BK408 := n1_
    have HB := n2_
    clear n0_ n1_ n2_
    (try clear hb)
    (try clear hb2)
    (try clear hk)
    (try clear hi)
    refine hK.out _ _ ⟨(blk_cell BK402.out 0).trans rfl, (blk_cell BK402.out 1).trans rfl, (blk_cell BK402.out 2).trans rfl, (blk_cell BK408.out 0).trans rfl, (blk_cell BK408.out 1).trans rfl, (blk_cell BK408.out 2).trans rfl⟩ (fun hHeld => ?_)
    clear hK K
    refine norm_ (a' := ?_) ?_ ?_
    rotate_left
    ·show Act.put _ (some 17) _ = _
     simp only [Act.put, List.setIfInBounds_toArray, List.set_cons_zero, List.set_cons_succ, i64_w, i32_w]
     rfl
    refine one_ (i := 5) (N := some 20) (bl 19 63) rfl rfl (one_of HT_.out (by kernel_rfl)) (by decide) (fun K hK => ?_)
    refine goes_ Try.func24 (by kernel_rfl) rfl #[.agg #[.string a0_0, .string a0_1, .int .i64 a0_2], .slice A1 l1.length c1] (by rfl) rfl rfl (by (try simp only [List.map_toArray, List.map_cons, List.map_nil]); first | done | rfl | (simp only [List.length_drop, List.length_take]; rfl)) ?_
    with_reducible refine (erasureref35_Valid.calls k a0_0 a0_1 a0_2 _ _ l1 t410 _ ?side1 ?side2 A8.out).mono ?_
    (case side1 => repeat (first | exact (Kd.C_below HR1.out HB.out) | (with_reducible refine Kd.C_alloc ?_ _) | (with_reducible refine Kd.C_drewN ?_ _) | (with_reducible refine Kd.C_drew ?_)))
    (case side2 => exact HC1.out)
    rintro e w40 ⟨rfl, hb⟩
    refine ⟨_, rfl, ?_⟩
    have n0_ := Aside0.mk (blk_below (g := gb402) (o := .cells #[.string a0_0, .string a0_1, .int .i64 a0_2] 23 (0, 0)) (by (with_reducible repeat (first | refine blk_drewN ?_ _ | refine blk_drew ?_ | refine blk_alloc ?_ _)); exact BK402.out) hb)
    have n1_ := Aside0.mk (blk_below (g := gb408) (o := .cells #[.string t405, .string t406, .int .i64 t407] 23 (0, 0)) (by (with_reducible repeat (first | refine blk_drewN ?_ _ | refine blk_drew ?_ | refine blk_alloc ?_ _)); exact BK408.out) hb)
    have n2_ := Aside0.mk (below_step (by repeat (first | (with_reducible first | exact HB.out | apply below_alloc | apply pw_below_drewN | apply below_drew1 | refine below_set ?_ GE402.out | refine below_set ?_ GE408.out) | exact HB.out)) hb)
    clear BK402
    clear BK408
    clear HB
    have BK402 := n0_
    have BK408 := n1_
    have HB := n2_
    clear n0_ n1_ n2_
    (try clear hb)
    (try clear hb2)
    (try clear hk)
    (try clear hi)
    refine hK.out _ _ ⟨(blk_cell BK402.out 0).trans rfl, (blk_cell BK402.out 1).trans rfl, (blk_cell BK402.out 2).trans rfl, (blk_cell BK408.out 0).trans rfl, (blk_cell BK408.out 1).trans rfl, (blk_cell BK408.out 2).trans rfl⟩ (fun hHeld => ?_)
    clear hK K
    refine norm_ (a' := ?_) ?_ ?_
    rotate_left
    ·show Act.put _ (some 20) _ = _
     simp only [Act.put, List.setIfInBounds_toArray, List.set_cons_zero, List.set_cons_succ, i64_w, i32_w]
     rfl
    refine pu (i := 6) (N := some 21) (bl 19 127) (any_of HT_.out (by kernel_rfl)) ?_
    refine pu (i := 7) (N := some 22) (bl 19 255) (any_of HT_.out (by kernel_rfl)) ?_
    refine pu (i := 10) (N := some 25) (bl 19 1279) (any_of HT_.out (by kernel_rfl)) ?_
    refine ta (i := 8) (N := some 23) (bl 19 1535) (take_ofW HT_.out HW_.out (by kernel_rfl)) hHeld ?_
    refine ta (i := 9) (N := some 24) (bl 19 2047) (take_ofW HT_.out HW_.out (by kernel_rfl)) hHeld ?_
    refine one_ (i := 11) (N := some 26) (bl 19 4095) rfl rfl (one_of HT_.out (by kernel_rfl)) (by decide) (fun K hK => ?_)
    refine goes_ Try.func18 (by kernel_rfl) rfl #[.slice A2 l2.length c2] (by rfl) rfl rfl (by (try simp only [List.map_toArray, List.map_cons, List.map_nil]); first | done | rfl | (simp only [List.length_drop, List.length_take]; rfl)) ?_
    with_reducible refine (erasurelaw35_Groups.calls k _ _ l2 t411 _ ?side1 ?side2 A10.out).mono ?_
    (case side1 => repeat (first | exact (Kd.C_below HR2.out HB.out) | (with_reducible refine Kd.C_alloc ?_ _) | (with_reducible refine Kd.C_drewN ?_ _) | (with_reducible refine Kd.C_drew ?_)))
    (case side2 => exact HC2.out)
    rintro e w41 ⟨v412, rfl, ho0, hb⟩
    refine ⟨_, rfl, ?_⟩
    have n0_ := Aside0.mk (Kd.S_lower ho0 (below_size (by repeat (first | (with_reducible first | exact HB.out | apply below_alloc | apply pw_below_drewN | apply below_drew1 | refine below_set ?_ GE402.out | refine below_set ?_ GE408.out) | exact HB.out))))
    have n1_ := Aside0.mk (blk_below (g := gb402) (o := .cells #[.string a0_0, .string a0_1, .int .i64 a0_2] 23 (0, 0)) (by (with_reducible repeat (first | refine blk_drewN ?_ _ | refine blk_drew ?_ | refine blk_alloc ?_ _)); exact BK402.out) hb)
    have n2_ := Aside0.mk (blk_below (g := gb408) (o := .cells #[.string t405, .string t406, .int .i64 t407] 23 (0, 0)) (by (with_reducible repeat (first | refine blk_drewN ?_ _ | refine blk_drew ?_ | refine blk_alloc ?_ _)); exact BK408.out) hb)
    have n3_ := Aside0.mk (below_step (by repeat (first | (with_reducible first | exact HB.out | apply below_alloc | apply pw_below_drewN | apply below_drew1 | refine below_set ?_ GE402.out | refine below_set ?_ GE408.out) | exact HB.out)) hb)
    clear BK402
    clear BK408
    clear HB
    have HO413 := n0_
    have BK402 := n1_
    have BK408 := n2_
    have HB := n3_
    clear n0_ n1_ n2_ n3_
    (try clear hb)
    (try clear hb2)
    (try clear hk)
    (try clear hi)
    (try clear ho0)
    obtain ⟨Ao42, co42, eo42⟩ := Kd.S_slice HO413.out
    (first | subst eo42 | (injection eo42 with f1_ f2_ f3_; have f4_ := f1_.symm; have f5_ := f3_.symm; clear f1_ f2_ f3_; subst f4_; subst f5_))
    refine hK.out _ _ ⟨(blk_cell BK402.out 0).trans rfl, (blk_cell BK402.out 1).trans rfl, (blk_cell BK402.out 2).trans rfl, (blk_cell BK408.out 0).trans rfl, (blk_cell BK408.out 1).trans rfl, (blk_cell BK408.out 2).trans rfl⟩ (fun hHeld => ?_)
    clear hK K
    refine norm_ (a' := ?_) ?_ ?_
    rotate_left
    ·show Act.put _ (some 26) _ = _
     simp only [Act.put, List.setIfInBounds_toArray, List.set_cons_zero, List.set_cons_succ, i64_w, i32_w]
     rfl
    refine one_ (i := 12) (N := some 27) (bl 19 8191) rfl rfl (one_of HT_.out (by kernel_rfl)) (by decide) (fun K hK => ?_)
    refine goes_ Try.func15 (by kernel_rfl) rfl #[.agg #[.string t405, .string t406, .int .i64 t407], .int .i64 1, .slice Ao42 t411.length co42] (by rfl) rfl rfl (by (try simp only [List.map_toArray, List.map_cons, List.map_nil]); first | done | rfl | (simp only [List.length_drop, List.length_take]; rfl)) ?_
    with_reducible refine (release_Publish.calls k t405 t406 t407 1 _ _ t411 t414 _ ?side1 ?side2 A11.out).mono ?_
    (case side1 => repeat (first | exact (Kd.S_reads' HO413.out).2.2 | (with_reducible refine Kd.C_alloc ?_ _) | (with_reducible refine Kd.C_drewN ?_ _) | (with_reducible refine Kd.C_drew ?_)))
    (case side2 => exact (Kd.S_reads' HO413.out).2.1)
    rintro e w43 ⟨v415, rfl, ho0, hb⟩
    refine ⟨_, rfl, ?_⟩
    have n0_ := Aside0.mk (Kd.S_below (by (with_reducible repeat (first | apply Kd.S_alloc | apply Kd.S_drewN | apply Kd.S_drew)); exact HO413.out) hb)
    have n1_ := Aside0.mk (Kd.V_lower (Kd.V_mono (ok' := fun k_ => some k_ ≠ (.slice Ao42 t411.length co42 : Value).ownBlock ∧ k_ ≠ gb402 ∧ k_ ≠ gb408) ho0 (fun k_ hk_ => ⟨(Kd.fresh' (Kd.S_lt (by (with_reducible repeat (first | apply Kd.S_alloc | apply Kd.S_drewN | apply Kd.S_drew)); exact HO413.out)) k_ hk_), (Kd.freshB (g := gb402) (o := .cells #[.string a0_0, .string a0_1, .int .i64 a0_2] 23 (0, 0)) (by (with_reducible repeat (first | refine blk_drewN ?_ _ | refine blk_drew ?_ | refine blk_alloc ?_ _)); exact BK402.out) k_ hk_), (Kd.freshB (g := gb408) (o := .cells #[.string t405, .string t406, .int .i64 t407] 23 (0, 0)) (by (with_reducible repeat (first | refine blk_drewN ?_ _ | refine blk_drew ?_ | refine blk_alloc ?_ _)); exact BK408.out) k_ hk_)⟩)) (below_size (by repeat (first | (with_reducible first | exact HB.out | apply below_alloc | apply pw_below_drewN | apply below_drew1 | refine below_set ?_ GE402.out | refine below_set ?_ GE408.out) | exact HB.out))))
    have n2_ := Aside0.mk (blk_below (g := gb402) (o := .cells #[.string a0_0, .string a0_1, .int .i64 a0_2] 23 (0, 0)) (by (with_reducible repeat (first | refine blk_drewN ?_ _ | refine blk_drew ?_ | refine blk_alloc ?_ _)); exact BK402.out) hb)
    have n3_ := Aside0.mk (blk_below (g := gb408) (o := .cells #[.string t405, .string t406, .int .i64 t407] 23 (0, 0)) (by (with_reducible repeat (first | refine blk_drewN ?_ _ | refine blk_drew ?_ | refine blk_alloc ?_ _)); exact BK408.out) hb)
    have n4_ := Aside0.mk (below_step (by repeat (first | (with_reducible first | exact HB.out | apply below_alloc | apply pw_below_drewN | apply below_drew1 | refine below_set ?_ GE402.out | refine below_set ?_ GE408.out) | exact HB.out)) hb)
    clear HO413
    clear BK402
    clear BK408
    clear HB
    have HO413 := n0_
    have HO416 := n1_
    have BK402 := n2_
    have BK408 := n3_
    have HB := n4_
    clear n0_ n1_ n2_ n3_ n4_
    (try clear hb)
    (try clear hb2)
    (try clear hk)
    (try clear hi)
    (try clear ho0)
    obtain ⟨Ao44, co44, eo44⟩ := Kd.V_slice HO416.out
    (first | subst eo44 | (injection eo44 with f1_ f2_ f3_; have f4_ := f1_.symm; have f5_ := f3_.symm; clear f1_ f2_ f3_; subst f4_; subst f5_))
    refine hK.out _ _ ⟨(blk_cell BK402.out 0).trans rfl, (blk_cell BK402.out 1).trans rfl, (blk_cell BK402.out 2).trans rfl, (blk_cell BK408.out 0).trans rfl, (blk_cell BK408.out 1).trans rfl, (blk_cell BK408.out 2).trans rfl⟩ (fun hHeld => ?_)
    clear hK K
    refine norm_ (a' := ?_) ?_ ?_
    rotate_left
    ·show Act.put _ (some 27) _ = _
     simp only [Act.put, List.setIfInBounds_toArray, List.set_cons_zero, List.set_cons_succ, i64_w, i32_w]
     rfl
    refine one_ (i := 13) (N := some 28) (bl 19 16383) rfl rfl (one_of HT_.out (by kernel_rfl)) (by decide) (fun K hK => ?_)
    refine goes_ Try.func23 (by kernel_rfl) rfl #[.agg #[.string t405, .string t406, .int .i64 t407], .slice Ao44 t414.length co44] (by rfl) rfl rfl (by (try simp only [List.map_toArray, List.map_cons, List.map_nil]); first | done | rfl | (simp only [List.length_drop, List.length_take]; rfl)) ?_
    with_reducible refine (release_Valid.calls k t405 t406 t407 _ _ t414 false _ ?side1 ?side2 A12.out).mono ?_
    (case side1 => repeat (first | exact (Kd.V_reads' HO416.out).2.2 | (with_reducible refine Kd.C_alloc ?_ _) | (with_reducible refine Kd.C_drewN ?_ _) | (with_reducible refine Kd.C_drew ?_)))
    (case side2 => exact (Kd.V_reads' HO416.out).2.1)
    rintro e w45 ⟨rfl, hb⟩
    refine ⟨_, rfl, ?_⟩
    have n0_ := Aside0.mk (Kd.S_below (by (with_reducible repeat (first | apply Kd.S_alloc | apply Kd.S_drewN | apply Kd.S_drew)); exact HO413.out) hb)
    have n1_ := Aside0.mk (Kd.V_below (by (with_reducible repeat (first | apply Kd.V_alloc | apply Kd.V_drewN | apply Kd.V_drew)); exact HO416.out) hb)
    have n2_ := Aside0.mk (blk_below (g := gb402) (o := .cells #[.string a0_0, .string a0_1, .int .i64 a0_2] 23 (0, 0)) (by (with_reducible repeat (first | refine blk_drewN ?_ _ | refine blk_drew ?_ | refine blk_alloc ?_ _)); exact BK402.out) hb)
    have n3_ := Aside0.mk (blk_below (g := gb408) (o := .cells #[.string t405, .string t406, .int .i64 t407] 23 (0, 0)) (by (with_reducible repeat (first | refine blk_drewN ?_ _ | refine blk_drew ?_ | refine blk_alloc ?_ _)); exact BK408.out) hb)
    have n4_ := Aside0.mk (below_step (by repeat (first | (with_reducible first | exact HB.out | apply below_alloc | apply pw_below_drewN | apply below_drew1 | refine below_set ?_ GE402.out | refine below_set ?_ GE408.out) | exact HB.out)) hb)
    clear HO413
    clear HO416
    clear BK402
    clear BK408
    clear HB
    have HO413 := n0_
    have HO416 := n1_
    have BK402 := n2_
    have BK408 := n3_
    have HB := n4_
    clear n0_ n1_ n2_ n3_ n4_
    (try clear hb)
    (try clear hb2)
    (try clear hk)
    (try clear hi)
    refine hK.out _ _ ⟨(blk_cell BK402.out 0).trans rfl, (blk_cell BK402.out 1).trans rfl, (blk_cell BK402.out 2).trans rfl, (blk_cell BK408.out 0).trans rfl, (blk_cell BK408.out 1).trans rfl, (blk_cell BK408.out 2).trans rfl⟩ (fun hHeld => ?_)
    clear hK K
    refine norm_ (a' := ?_) ?_ ?_
    rotate_left
    ·show Act.put _ (some 28) _ = _
     simp only [Act.put, List.setIfInBounds_toArray, List.set_cons_zero, List.set_cons_succ, i64_w, i32_w]
     rfl
    refine pu (i := 14) (N := some 29) (bl 19 32767) (any_of HT_.out (by kernel_rfl)) ?_
    refine pu (i := 15) (N := some 30) (bl 19 65535) (any_of HT_.out (by kernel_rfl)) ?_
    refine po (i := 16) (N := some 31) (bl 19 131071) (any_of HT_.out (by kernel_rfl)) ?_
    refine pu (i := 17) (N := some 32) (bl 19 262143) (any_of HT_.out (by kernel_rfl)) ?_
    refine pu (i := 18) (N := some 6) (bl 19 524287) (any_of HT_.out (by kernel_rfl)) ?_
    refine done_ (done_of HT_.out (by kernel_rfl)) ?_
    try go_wp2
    go_ret
    exact ⟨by first | rfl | (simp [errW_none, errW_some] <;> rfl) | (simp [*, errW_none, errW_some] <;> rfl), by repeat (first | (with_reducible first | exact HB.out | apply below_alloc | apply pw_below_drewN | apply below_drew1 | refine below_set ?_ GE402.out | refine below_set ?_ GE408.out) | exact HB.out)⟩
  ·rw [if_neg c9] at H
   have c9b0 : (t409 == t410) = false := by simpa using c9
   (try (have c9b1 : decide (t409 = t410) = false := by simpa using c9))
   (try (have c9b2 : (t409 == t410) = false := by simpa using c9))
   (try (have c9b3 : ¬ (t409 = t410) := by simpa using c9))
   clear c9
   obtain rfl := Option.some.inj H
   go_enter Try.func7, Try.ntmps7
   try go_wp2_with (first | ((with_reducible refine gate_dst (N := 3) rfl ?_); refine box_event ?hg (N := 3) ?hd (cs := #[.string a0_0, .string a0_1, .int .i64 a0_2]) (t := 23) ?hr ?_; (case hd => rfl); (case hg => rfl); (case hr => first | (go_simp; done) | (go_simp; rfl)); intro gb402 hg w46 hbox hb; have n0_ := Aside0.mk (below_step (by repeat (first | (with_reducible first | exact HB.out | apply below_alloc | apply pw_below_drewN | apply below_drew1) | exact HB.out)) hb); have n1_ := Aside0.mk (hbox); have n2_ := Aside0.mk ((by rw [hg]; exact (below_size (by repeat (first | (with_reducible first | exact HB.out | apply below_alloc | apply pw_below_drewN | apply below_drew1) | exact HB.out))) : w.heap.size ≤ gb402)); have n3_ := Aside0.mk ((by rw [hg]; exact (below_size (by repeat (first | (with_reducible first | exact HB.out | apply below_alloc | apply pw_below_drewN | apply below_drew1) | exact HB.out))) : w.heap.size ≤ gb402)); clear HB; have HB := n0_; have BK402 := n1_; have GW402 := n2_; have GE402 := n3_; clear n0_ n1_ n2_ n3_; clear hb hbox hg) | ((with_reducible refine gate_callee (f := 22) rfl ?_); refine goesL_ (some 9) rfl rfl Try.func22 (by kernel_rfl) rfl #[.slice A1 l1.length c1] rfl (by (try simp only [List.map_toArray, List.map_cons, List.map_nil]); first | done | rfl | (simp only [List.length_drop, List.length_take]; rfl)) ?_; (with_reducible refine (erasurelaw35_few.calls k _ _ l1 true _ ?side1 ?side2 A4.out).mono ?_); (case side1 => repeat (first | exact (Kd.C_below HR1.out HB.out) | (with_reducible refine Kd.C_alloc ?_ _) | (with_reducible refine Kd.C_drewN ?_ _) | (with_reducible refine Kd.C_drew ?_))); (case side2 => exact HC1.out); rintro e w' ⟨rfl, ⟨nd, rfl⟩⟩; refine ⟨_, rfl, ?_⟩; (try (rw [drewN_self w46]; generalize hq_ : World.drewN w46 _ = w46; have n0_ : Aside0 (w46.heap[gb402]? = some (.cells #[.string a0_0, .string a0_1, .int .i64 a0_2] 23 (0, 0))) := ⟨by rw [← hq_]; exact (by (with_reducible repeat (first | refine blk_drewN ?_ _ | refine blk_drew ?_ | refine blk_alloc ?_ _)); exact BK402.out)⟩; have n1_ : Aside0 (Below w.heap.size w w46) := ⟨by rw [← hq_]; exact (by repeat (first | (with_reducible first | exact HB.out | apply below_alloc | apply pw_below_drewN | apply below_drew1 | refine below_set ?_ GE402.out) | exact HB.out))⟩; clear BK402 HB hq_; have BK402 := n0_; have HB := n1_; clear n0_ n1_)); have hcz47_0 : w46.cell? ⟨gb402, 0, none⟩ = some (.string a0_0) := (blk_cell BK402.out 0).trans rfl; have hcz47_1 : w46.cell? ⟨gb402, 1, none⟩ = some (.string a0_1) := (blk_cell BK402.out 1).trans rfl; have hcz47_2 : w46.cell? ⟨gb402, 2, none⟩ = some (.int .i64 a0_2) := (blk_cell BK402.out 2).trans rfl; have hfz47_0 := blk_frozen BK402.out 0; have hfz47_1 := blk_frozen BK402.out 1; have hfz47_2 := blk_frozen BK402.out 2) | ((with_reducible refine gate_callee (f := 17) rfl ?_); refine goesL_ (some 14) rfl rfl Try.func17 (by kernel_rfl) rfl #[.int .i64 a0_2] rfl (by (try simp only [List.map_toArray, List.map_cons, List.map_nil]); first | done | rfl | (simp only [List.length_drop, List.length_take]; rfl)) ?_; (with_reducible refine (erasurelaw35_limit.calls a0_2 t405 t406 t407 _ A6.out).mono ?_); rintro e w48 ⟨rfl, hb⟩; refine ⟨_, rfl, ?_⟩; have n0_ := Aside0.mk (blk_below (g := gb402) (o := .cells #[.string a0_0, .string a0_1, .int .i64 a0_2] 23 (0, 0)) (by (with_reducible repeat (first | refine blk_drewN ?_ _ | refine blk_drew ?_ | refine blk_alloc ?_ _)); exact BK402.out) hb); have n1_ := Aside0.mk (below_step (by repeat (first | (with_reducible first | exact HB.out | apply below_alloc | apply pw_below_drewN | apply below_drew1 | refine below_set ?_ GE402.out) | exact HB.out)) hb); clear BK402; clear HB; have BK402 := n0_; have HB := n1_; clear n0_ n1_; (try clear hb); (try clear hb2); (try clear hk); (try clear hi)) | ((with_reducible refine gate_dst (N := 7) rfl ?_); refine box_event ?hg (N := 7) ?hd (cs := #[.string (⟨#[]⟩ : ByteArray), .string (⟨#[]⟩ : ByteArray), .int .i64 0]) (t := 23) ?hr ?_; (case hd => rfl); (case hg => rfl); (case hr => first | (go_simp; done) | (go_simp; rfl)); intro gb408 hg w49 hbox hb; have n0_ := Aside0.mk (blk_below (g := gb402) (o := .cells #[.string a0_0, .string a0_1, .int .i64 a0_2] 23 (0, 0)) (by (with_reducible repeat (first | refine blk_drewN ?_ _ | refine blk_drew ?_ | refine blk_alloc ?_ _)); exact BK402.out) hb); have n1_ := Aside0.mk (below_step (by repeat (first | (with_reducible first | exact HB.out | apply below_alloc | apply pw_below_drewN | apply below_drew1 | refine below_set ?_ GE402.out) | exact HB.out)) hb); have n2_ := Aside0.mk (hbox); have n3_ := Aside0.mk ((by rw [hg]; exact (below_size (by repeat (first | (with_reducible first | exact HB.out | apply below_alloc | apply pw_below_drewN | apply below_drew1 | refine below_set ?_ GE402.out) | exact HB.out))) : w.heap.size ≤ gb408)); have n4_ := Aside0.mk ((by rw [hg]; exact (below_size (by repeat (first | (with_reducible first | exact HB.out | apply below_alloc | apply pw_below_drewN | apply below_drew1 | refine below_set ?_ GE402.out) | exact HB.out))) : w.heap.size ≤ gb408)); have n5_ := Aside0.mk ((by rw [hg]; exact Nat.ne_of_lt (blk_lt (g := gb402) (o := .cells #[.string a0_0, .string a0_1, .int .i64 a0_2] 23 (0, 0)) (by (with_reducible repeat (first | refine blk_drewN ?_ _ | refine blk_drew ?_ | refine blk_alloc ?_ _)); exact BK402.out)) : gb402 ≠ gb408)); have n6_ := Aside0.mk ((by rw [hg]; exact Nat.ne_of_gt (blk_lt (g := gb402) (o := .cells #[.string a0_0, .string a0_1, .int .i64 a0_2] 23 (0, 0)) (by (with_reducible repeat (first | refine blk_drewN ?_ _ | refine blk_drew ?_ | refine blk_alloc ?_ _)); exact BK402.out)) : gb408 ≠ gb402)); clear BK402; clear HB; have BK402 := n0_; have HB := n1_; have BK408 := n2_; have GW408 := n3_; have GE408 := n4_; have NB402_408 := n5_; have NB408_402 := n6_; clear n0_ n1_ n2_ n3_ n4_ n5_ n6_; clear hb hbox hg; have hnb50 := NB408_402.out; have hnc50 := NB402_408.out; have hcz51_0 : w49.cell? ⟨gb408, 0, none⟩ = some (.string (⟨#[]⟩ : ByteArray)) := (blk_cell BK408.out 0).trans rfl; have hcz51_1 : w49.cell? ⟨gb408, 1, none⟩ = some (.string (⟨#[]⟩ : ByteArray)) := (blk_cell BK408.out 1).trans rfl; have hcz51_2 : w49.cell? ⟨gb408, 2, none⟩ = some (.int .i64 0) := (blk_cell BK408.out 2).trans rfl; have hfz51_0 := blk_frozen BK408.out 0; have hfz51_1 := blk_frozen BK408.out 1; have hfz51_2 := blk_frozen BK408.out 2))
   have n0_ : Aside0 ((((w49.setCell ⟨gb408, 0, none⟩ (.string t405)).setCell ⟨gb408, 1, none⟩ (.string t406)).setCell ⟨gb408, 2, none⟩ (.int .i64 t407)).heap[gb402]? = some (.cells #[.string a0_0, .string a0_1, .int .i64 a0_2] 23 (0, 0))) := ⟨by (with_reducible repeat (first | refine blk_drewN ?_ _ | refine blk_drew ?_ | refine blk_alloc ?_ _)); refine blk_far ?_ NB402_408.out _; (with_reducible repeat (first | refine blk_drewN ?_ _ | refine blk_drew ?_ | refine blk_alloc ?_ _)); refine blk_far ?_ NB402_408.out _; (with_reducible repeat (first | refine blk_drewN ?_ _ | refine blk_drew ?_ | refine blk_alloc ?_ _)); refine blk_far ?_ NB402_408.out _; (with_reducible repeat (first | refine blk_drewN ?_ _ | refine blk_drew ?_ | refine blk_alloc ?_ _)); exact BK402.out⟩
   have n1_ : Aside0 ((((w49.setCell ⟨gb408, 0, none⟩ (.string t405)).setCell ⟨gb408, 1, none⟩ (.string t406)).setCell ⟨gb408, 2, none⟩ (.int .i64 t407)).heap[gb408]? = some (.cells #[.string t405, .string t406, .int .i64 t407] 23 (0, 0))) := ⟨by (with_reducible repeat (first | refine blk_drewN ?_ _ | refine blk_drew ?_ | refine blk_alloc ?_ _)); refine blk_put (cs := #[.string t405, .string t406, .int .i64 0]) ?_ 2 _ rfl; (with_reducible repeat (first | refine blk_drewN ?_ _ | refine blk_drew ?_ | refine blk_alloc ?_ _)); refine blk_put (cs := #[.string t405, .string (⟨#[]⟩ : ByteArray), .int .i64 0]) ?_ 1 _ rfl; (with_reducible repeat (first | refine blk_drewN ?_ _ | refine blk_drew ?_ | refine blk_alloc ?_ _)); refine blk_put (cs := #[.string (⟨#[]⟩ : ByteArray), .string (⟨#[]⟩ : ByteArray), .int .i64 0]) ?_ 0 _ rfl; (with_reducible repeat (first | refine blk_drewN ?_ _ | refine blk_drew ?_ | refine blk_alloc ?_ _)); exact BK408.out⟩
   have n2_ : Aside0 (Below w.heap.size w (((w49.setCell ⟨gb408, 0, none⟩ (.string t405)).setCell ⟨gb408, 1, none⟩ (.string t406)).setCell ⟨gb408, 2, none⟩ (.int .i64 t407))) := ⟨by repeat (first | (with_reducible first | exact HB.out | apply below_alloc | apply pw_below_drewN | apply below_drew1 | refine below_set ?_ GE402.out | refine below_set ?_ GE408.out) | exact HB.out)⟩
   (try clear BK402)
   (try clear BK408)
   (try clear HB)
   generalize (((w49.setCell ⟨gb408, 0, none⟩ (.string t405)).setCell ⟨gb408, 1, none⟩ (.string t406)).setCell ⟨gb408, 2, none⟩ (.int .i64 t407)) = w52 at n0_ n1_ n2_ ⊢
   have BK402 := n0_
   have BK408 := n1_
   have HB := n2_
   clear n0_ n1_ n2_
   have n0_ := Aside0.mk (blk_drew BK402.out)
   have n1_ := Aside0.mk (blk_drew BK408.out)
   have n2_ := Aside0.mk (below_drew1 HB.out)
   clear BK402
   clear BK408
   clear HB
   have BK402 := n0_
   have BK408 := n1_
   have HB := n2_
   clear n0_ n1_ n2_
   refine start_ (n := 19) (S := fun w' => w'.cell? ⟨gb402, 0, none⟩ = some (.string a0_0) ∧ w'.cell? ⟨gb402, 1, none⟩ = some (.string a0_1) ∧ w'.cell? ⟨gb402, 2, none⟩ = some (.int .i64 a0_2)) (ds := []) #[false, false, false, false, false, false, false, false, false, false, false, false, false, false, false, false, false, false, false] (by kernel_rfl) rfl rfl ⟨(blk_cell BK402.out 0).trans rfl, (blk_cell BK402.out 1).trans rfl, (blk_cell BK402.out 2).trans rfl⟩ (fun hHeld => ?_); refine with_tabW erasurelaw35_ReleaseValid.tab4 erasurelaw35_ReleaseValid.bits4 (fun HT_ HW_ => ?_)
   generalize w52.drew = w53 at BK402 BK408 HB hHeld ⊢
   refine pu (i := 1) (N := some 16) (bl 19 2) (any_of HT_.out (by kernel_rfl)) ?_
   refine pu (i := 4) (N := some 19) (bl 19 18) (any_of HT_.out (by kernel_rfl)) ?_
   refine ta (i := 0) (N := some 15) (bl 19 19) (take_ofW HT_.out HW_.out (by kernel_rfl)) hHeld ?_
   refine ta (i := 3) (N := some 18) (bl 19 27) (take_ofW HT_.out HW_.out (by kernel_rfl)) hHeld ?_
   refine one_ (i := 2) (N := some 17) (bl 19 31) rfl rfl (one_of HT_.out (by kernel_rfl)) (by decide) (fun K hK => ?_)
   refine goes_ Try.func23 (by kernel_rfl) rfl #[.agg #[.string a0_0, .string a0_1, .int .i64 a0_2], .slice A1 l1.length c1] (by rfl) rfl rfl (by (try simp only [List.map_toArray, List.map_cons, List.map_nil]); first | done | rfl | (simp only [List.length_drop, List.length_take]; rfl)) ?_
   with_reducible refine (release_Valid.calls k a0_0 a0_1 a0_2 _ _ l1 t409 _ ?side1 ?side2 A7.out).mono ?_
   (case side1 => repeat (first | exact (Kd.C_below HR1.out HB.out) | (with_reducible refine Kd.C_alloc ?_ _) | (with_reducible refine Kd.C_drewN ?_ _) | (with_reducible refine Kd.C_drew ?_)))
   (case side2 => exact HC1.out)
   rintro e w54 ⟨rfl, hb⟩
   refine ⟨_, rfl, ?_⟩
   have n0_ := Aside0.mk (blk_below (g := gb402) (o := .cells #[.string a0_0, .string a0_1, .int .i64 a0_2] 23 (0, 0)) (by (with_reducible repeat (first | refine blk_drewN ?_ _ | refine blk_drew ?_ | refine blk_alloc ?_ _)); exact BK402.out) hb)
   have n1_ := Aside0.mk (blk_below (g := gb408) (o := .cells #[.string t405, .string t406, .int .i64 t407] 23 (0, 0)) (by (with_reducible repeat (first | refine blk_drewN ?_ _ | refine blk_drew ?_ | refine blk_alloc ?_ _)); exact BK408.out) hb)
   have n2_ := Aside0.mk (below_step (by repeat (first | (with_reducible first | exact HB.out | apply below_alloc | apply pw_below_drewN | apply below_drew1 | refine below_set ?_ GE402.out | refine below_set ?_ GE408.out) | exact HB.out)) hb)
   clear BK402
   clear BK408
   clear HB
   have BK402 := n0_
   have BK408 := n1_
   have HB := n2_
   clear n0_ n1_ n2_
   (try clear hb)
   (try clear hb2)
   (try clear hk)
   (try clear hi)
   refine hK.out _ _ ⟨(blk_cell BK402.out 0).trans rfl, (blk_cell BK402.out 1).trans rfl, (blk_cell BK402.out 2).trans rfl⟩ (fun hHeld => ?_)
   clear hK K
   refine norm_ (a' := ?_) ?_ ?_
   rotate_left
   ·show Act.put _ (some 17) _ = _
    simp only [Act.put, List.setIfInBounds_toArray, List.set_cons_zero, List.set_cons_succ, i64_w, i32_w]
    rfl
   refine one_ (i := 5) (N := some 20) (bl 19 63) rfl rfl (one_of HT_.out (by kernel_rfl)) (by decide) (fun K hK => ?_)
   refine goes_ Try.func24 (by kernel_rfl) rfl #[.agg #[.string a0_0, .string a0_1, .int .i64 a0_2], .slice A1 l1.length c1] (by rfl) rfl rfl (by (try simp only [List.map_toArray, List.map_cons, List.map_nil]); first | done | rfl | (simp only [List.length_drop, List.length_take]; rfl)) ?_
   with_reducible refine (erasureref35_Valid.calls k a0_0 a0_1 a0_2 _ _ l1 t410 _ ?side1 ?side2 A8.out).mono ?_
   (case side1 => repeat (first | exact (Kd.C_below HR1.out HB.out) | (with_reducible refine Kd.C_alloc ?_ _) | (with_reducible refine Kd.C_drewN ?_ _) | (with_reducible refine Kd.C_drew ?_)))
   (case side2 => exact HC1.out)
   rintro e w55 ⟨rfl, hb⟩
   refine ⟨_, rfl, ?_⟩
   have n0_ := Aside0.mk (blk_below (g := gb402) (o := .cells #[.string a0_0, .string a0_1, .int .i64 a0_2] 23 (0, 0)) (by (with_reducible repeat (first | refine blk_drewN ?_ _ | refine blk_drew ?_ | refine blk_alloc ?_ _)); exact BK402.out) hb)
   have n1_ := Aside0.mk (blk_below (g := gb408) (o := .cells #[.string t405, .string t406, .int .i64 t407] 23 (0, 0)) (by (with_reducible repeat (first | refine blk_drewN ?_ _ | refine blk_drew ?_ | refine blk_alloc ?_ _)); exact BK408.out) hb)
   have n2_ := Aside0.mk (below_step (by repeat (first | (with_reducible first | exact HB.out | apply below_alloc | apply pw_below_drewN | apply below_drew1 | refine below_set ?_ GE402.out | refine below_set ?_ GE408.out) | exact HB.out)) hb)
   clear BK402
   clear BK408
   clear HB
   have BK402 := n0_
   have BK408 := n1_
   have HB := n2_
   clear n0_ n1_ n2_
   (try clear hb)
   (try clear hb2)
   (try clear hk)
   (try clear hi)
   refine hK.out _ _ ⟨(blk_cell BK402.out 0).trans rfl, (blk_cell BK402.out 1).trans rfl, (blk_cell BK402.out 2).trans rfl⟩ (fun hHeld => ?_)
   clear hK K
   refine norm_ (a' := ?_) ?_ ?_
   rotate_left
   ·show Act.put _ (some 20) _ = _
    simp only [Act.put, List.setIfInBounds_toArray, List.set_cons_zero, List.set_cons_succ, i64_w, i32_w]
    rfl
   refine pu (i := 6) (N := some 21) (bl 19 127) (any_of HT_.out (by kernel_rfl)) ?_
   refine pu (i := 7) (N := some 22) (bl 19 255) (any_of HT_.out (by kernel_rfl)) ?_
   refine po (i := 8) (N := some 23) (bl 19 511) (any_of HT_.out (by kernel_rfl)) ?_
   refine po (i := 9) (N := some 24) (bl 19 1023) (any_of HT_.out (by kernel_rfl)) ?_
   refine po (i := 10) (N := some 25) (bl 19 2047) (any_of HT_.out (by kernel_rfl)) ?_
   refine po (i := 11) (N := some 26) (bl 19 4095) (any_of HT_.out (by kernel_rfl)) ?_
   refine po (i := 12) (N := some 27) (bl 19 8191) (any_of HT_.out (by kernel_rfl)) ?_
   refine po (i := 13) (N := some 28) (bl 19 16383) (any_of HT_.out (by kernel_rfl)) ?_
   refine pu (i := 14) (N := some 29) (bl 19 32767) (any_of HT_.out (by kernel_rfl)) ?_
   refine pu (i := 15) (N := some 30) (bl 19 65535) (any_of HT_.out (by kernel_rfl)) ?_
   refine po (i := 16) (N := some 31) (bl 19 131071) (any_of HT_.out (by kernel_rfl)) ?_
   refine pu (i := 17) (N := some 32) (bl 19 262143) (any_of HT_.out (by kernel_rfl)) ?_
   refine pu (i := 18) (N := some 6) (bl 19 524287) (any_of HT_.out (by kernel_rfl)) ?_
   refine done_ (done_of HT_.out (by kernel_rfl)) ?_
   try go_wp2
   go_ret
   exact ⟨by first | rfl | (simp [errW_none, errW_some] <;> rfl) | (simp [*, errW_none, errW_some] <;> rfl), by repeat (first | (with_reducible first | exact HB.out | apply below_alloc | apply pw_below_drewN | apply below_drew1 | refine below_set ?_ GE402.out | refine below_set ?_ GE408.out) | exact HB.out)⟩
 ·replace c5 := Bool.eq_false_iff.mpr c5
  subst c5
  have H1 : ((erasurelaw35_awake.f k).bind fun t404 => (some t404)) = some r := by rw [if_neg (show ¬ (false = true) by decide)] at H; exact H
  clear H
  have H := H1
  clear H1
  replace H := Option.bind_eq_some_iff.mp H
  obtain ⟨t404, A560, H⟩ := H
  replace H : (some t404) = some r := H
  have A56 := Aside0.mk A560
  clear A560
  obtain rfl := Option.some.inj H
  go_enter Try.func7, Try.ntmps7
  go_wp2_with (first | ((with_reducible refine gate_dst (N := 3) rfl ?_); refine box_event ?hg (N := 3) ?hd (cs := #[.string a0_0, .string a0_1, .int .i64 a0_2]) (t := 23) ?hr ?_; (case hd => rfl); (case hg => rfl); (case hr => first | (go_simp; done) | (go_simp; rfl)); intro gb402 hg w57 hbox hb; have n0_ := Aside0.mk (below_step (by repeat (first | (with_reducible first | exact HB.out | apply below_alloc | apply pw_below_drewN | apply below_drew1) | exact HB.out)) hb); have n1_ := Aside0.mk (hbox); have n2_ := Aside0.mk ((by rw [hg]; exact (below_size (by repeat (first | (with_reducible first | exact HB.out | apply below_alloc | apply pw_below_drewN | apply below_drew1) | exact HB.out))) : w.heap.size ≤ gb402)); have n3_ := Aside0.mk ((by rw [hg]; exact (below_size (by repeat (first | (with_reducible first | exact HB.out | apply below_alloc | apply pw_below_drewN | apply below_drew1) | exact HB.out))) : w.heap.size ≤ gb402)); clear HB; have HB := n0_; have BK402 := n1_; have GW402 := n2_; have GE402 := n3_; clear n0_ n1_ n2_ n3_; clear hb hbox hg) | ((with_reducible refine gate_callee (f := 22) rfl ?_); refine goesL_ (some 9) rfl rfl Try.func22 (by kernel_rfl) rfl #[.slice A1 l1.length c1] rfl (by (try simp only [List.map_toArray, List.map_cons, List.map_nil]); first | done | rfl | (simp only [List.length_drop, List.length_take]; rfl)) ?_; (with_reducible refine (erasurelaw35_few.calls k _ _ l1 false _ ?side1 ?side2 A4.out).mono ?_); (case side1 => repeat (first | exact (Kd.C_below HR1.out HB.out) | (with_reducible refine Kd.C_alloc ?_ _) | (with_reducible refine Kd.C_drewN ?_ _) | (with_reducible refine Kd.C_drew ?_))); (case side2 => exact HC1.out); rintro e w' ⟨rfl, ⟨nd, rfl⟩⟩; refine ⟨_, rfl, ?_⟩) | ((with_reducible refine gate_callee (f := 12) rfl ?_); refine goesL_ (some 11) rfl rfl Try.func12 (by kernel_rfl) rfl #[] rfl (by (try simp only [List.map_toArray, List.map_cons, List.map_nil]); first | done | rfl | (simp only [List.length_drop, List.length_take]; rfl)) ?_; (with_reducible refine (erasurelaw35_awake.calls k  t404 _ A56.out).mono ?_); rintro e w58 ⟨rfl, hb⟩; refine ⟨_, rfl, ?_⟩; have n0_ := Aside0.mk (blk_below (g := gb402) (o := .cells #[.string a0_0, .string a0_1, .int .i64 a0_2] 23 (0, 0)) (by (with_reducible repeat (first | refine blk_drewN ?_ _ | refine blk_drew ?_ | refine blk_alloc ?_ _)); exact BK402.out) hb); have n1_ := Aside0.mk (below_step (by repeat (first | (with_reducible first | exact HB.out | apply below_alloc | apply pw_below_drewN | apply below_drew1 | refine below_set ?_ GE402.out) | exact HB.out)) hb); clear BK402; clear HB; have BK402 := n0_; have HB := n1_; clear n0_ n1_; (try clear hb); (try clear hb2); (try clear hk); (try clear hi)))
  go_ret
  exact ⟨by first | rfl | (simp [errW_none, errW_some] <;> rfl) | (simp [*, errW_none, errW_some] <;> rfl), by repeat (first | (with_reducible first | exact HB.out | apply below_alloc | apply pw_below_drewN | apply below_drew1 | refine below_set ?_ GE402.out) | exact HB.out)⟩
end Go.Proofs.Ytjhnpaenhdbhpaa.P
namespace Go.Proofs.Ytjhnpaenhdbhpaa.Q
open Go.RowKit Go.Proofs.Ytjhnpaenhdbhpaa.P Go.Proofs.YtjhnpaenhdbhpaaW.PrintWords Go.Proofs.YtjhnpaenhdbhpaaW.PrintLast
set_option linter.unusedVariables false
set_option linter.unusedSimpArgs false
theorem wr {n : Int} (h : -9223372036854775808 ≤ n ∧ n ≤ 9223372036854775807) : wrap64 n = n := by unfold wrap64; omega
theorem bits_mask_all (i : Nat) (hi : i < 63) (x : Int) : Go.bits .and .i64 x (2 ^ i - 1) = x % 2 ^ i := by
  have hpos : 0 < 2 ^ i := Nat.two_pow_pos i
  have hlt : 2 ^ i < 2 ^ 63 := Nat.pow_lt_pow_right (by decide) hi
  have hc : ((2 : Int) ^ i - 1) = ((2 ^ i - 1 : Nat) : Int) := by rw [Int.natCast_sub hpos]; simp
  rw [hc]
  unfold Go.bits
  have hb : (IntKind.i64).bits = 64 := rfl
  simp only [BitVec.toNat_and, BitVec.toNat_ofInt, BitVec.ofInt_natCast, BitVec.toNat_ofNat, hb]
  have h1 : (2 ^ i - 1) % 2 ^ 64 = 2 ^ i - 1 := Nat.mod_eq_of_lt (Nat.lt_of_lt_of_le (Nat.sub_lt hpos (by decide)) (Nat.le_of_lt (Nat.lt_trans hlt (by decide))))
  rw [h1, Nat.and_two_pow_sub_one_eq_mod]
  have h2 : (((x % ((2 ^ 64 : Nat) : Int)).toNat % 2 ^ i : Nat) : Int) = x % 2 ^ i := by
    rw [Int.natCast_emod, Int.toNat_of_nonneg (Int.emod_nonneg _ (by decide))]
    have hd : ((2 ^ i : Nat) : Int) ∣ ((2 ^ 64 : Nat) : Int) := by
      refine Int.natCast_dvd_natCast.2 (Nat.pow_dvd_pow 2 (by omega))
    rw [Int.emod_emod_of_dvd _ hd]
    simp
  rw [h2]
  have h3 : 0 ≤ x % 2 ^ i := Int.emod_nonneg _ (by have : (0 : Int) < 2 ^ i := by exact_mod_cast hpos
                                                   omega)
  have h4 : x % 2 ^ i < 2 ^ i := Int.emod_lt_of_pos _ (by exact_mod_cast hpos)
  have h5 : (2 : Int) ^ i < 2 ^ 63 := by exact_mod_cast hlt
  rw [IntKind.wrap_i64]
  omega
theorem and1023 (x : Int) : Go.bits .and .i64 x 1023 = x % 1024 := bits_mask_all 10 (by decide) x
theorem and15 (x : Int) : Go.bits .and .i64 x 15 = x % 16 := bits_mask_all 4 (by decide) x
theorem Ev.ite_pos {α : Type} {g f : Nat → Option α} {r : α} {c : Prop} [Decidable c] (h : c) (k : Ev g r) : Ev (fun n => if c then g n else f n) r := Ev.congr (fun n => if_pos h) k
theorem Ev.ite_neg {α : Type} {g f : Nat → Option α} {r : α} {c : Prop} [Decidable c] (h : ¬ c) (k : Ev f r) : Ev (fun n => if c then g n else f n) r := Ev.congr (fun n => if_neg h) k
theorem Ev.bindc {α β : Type} {o : Option α} {f : Nat → α → Option β} {a : α} {r : β} (h : o = some a) (k : Ev (fun n => f n a) r) : Ev (fun n => o.bind (f n)) r := Ev.congr (fun n => by rw [h]; rfl) k
theorem Ev.done {α : Type} {o : Option α} {r : α} (h : o = some r) : Ev (fun _ => o) r := ⟨0, fun _ _ => h⟩
theorem bytes_ext {a b : ByteArray} (h : a.toList = b.toList) : a = b := by
  have e : a.data.toList = b.data.toList := by rw [← ByteArray.toList_eq, ← ByteArray.toList_eq]; exact h
  cases a; cases b
  congr 1
  exact Array.toList_inj.1 e
theorem emptyBytes : (⟨#[]⟩ : ByteArray).toList = [] := by rw [ByteArray.toList_eq]
theorem emptyBytes_iff (a : ByteArray) : a.toList = [] ↔ a = (⟨#[]⟩ : ByteArray) := ⟨fun h => bytes_ext (h.trans emptyBytes.symm), fun h => by rw [h]; exact emptyBytes⟩
theorem Ev.succ {α : Type} {g : Nat → Option α} {r : α} (k : Ev (fun n => g (n + 1)) r) : Ev g r := by
  obtain ⟨K, h⟩ := k
  exact ⟨K + 1, fun k hk => by obtain ⟨m, rfl⟩ : ∃ m, k = m + 1 := ⟨k - 1, by omega⟩; exact h m (by omega)⟩
theorem loop_down {P : Nat → Prop} (n : Nat) (hend : P n) (hstep : ∀ i, i < n → P (i + 1) → P i) : ∀ i, i ≤ n → P i := by
  intro i hi
  have key : ∀ d i, i + d = n → P i := by
    intro d
    induction d with
    | zero => intro i h; have : i = n := by omega
              rw [this]; exact hend
    | succ d ih => intro i h; exact hstep i (by omega) (ih (i + 1) (by omega))
  exact key (n - i) i (by omega)
theorem wrn {i n : Nat} (h : i < n) (hn : n ≤ 9223372036854775807) : wrap64 ((i : Int) + 1) = ((i + 1 : Nat) : Int) := by rw [wr (by omega)]; omega
theorem wrp {i : Nat} (h : 0 < i) (hn : i ≤ 9223372036854775807) : wrap64 ((i : Int) - 1) = ((i - 1 : Nat) : Int) := by rw [wr (by omega)]; omega
theorem drop_cons {α : Type} (z : α) {l : List α} {i : Nat} (h : i < l.length) : l.drop i = l.getD (i : Int).toNat z :: l.drop (i + 1) := by
  rw [List.drop_eq_getElem_cons h]; simp [h]
end Go.Proofs.Ytjhnpaenhdbhpaa.Q
namespace Go.Proofs.Ytjhnpaenhdbhpaa.Q
open Go.RowKit Go.Proofs.Ytjhnpaenhdbhpaa.P Go.Proofs.YtjhnpaenhdbhpaaW.PrintWords Go.Proofs.YtjhnpaenhdbhpaaW.PrintLast
set_option linter.unusedVariables false
set_option linter.unusedSimpArgs false
theorem V_ext {x y : S38} (h0 : x.f0 = y.f0) (h1 : x.f1 = y.f1) (h2 : x.f2 = y.f2) : x = y := by cases x; cases y; simp_all
def okV (x : S38) : Bool :=
  if x.f0 = 0 then decide (x.f1 = 0) && decide (x.f2 = (⟨#[]⟩ : ByteArray))
  else if x.f0 = 1 then decide (-4294967296 ≤ x.f1 ∧ x.f1 ≤ 4294967296) && decide (x.f2 = (⟨#[]⟩ : ByteArray))
  else if x.f0 = 2 then decide (x.f1 = 0) && decide (x.f2.size ≤ 32)
  else false
def clV (x : S38) : S38 := if okV x then x else z38
theorem beq_empty (a : ByteArray) : (a.toList == ([] : List UInt8)) = decide (a = (⟨#[]⟩ : ByteArray)) := by
  rw [Bool.eq_iff_iff, beq_iff_eq, decide_eq_true_eq]; exact emptyBytes_iff a
theorem value_Valid_eq (a b : Int) (c : ByteArray) : value_Valid.f a b c = some (okV ⟨a, b, c⟩) := by
  unfold value_Valid.f value_inRange.f okV
  simp only [beq_empty]
  by_cases h0 : a = 0
  · simp only [if_pos h0]
    by_cases h1 : b = 0 <;> simp [h1]
  · simp only [if_neg h0]
    by_cases h1 : a = 1
    · simp only [if_pos h1]
      by_cases h2 : b ≥ -4294967296
      · rw [if_pos h2]; simp only [Option.bind_some, decide_eq_true_eq]
        by_cases h3 : b ≤ 4294967296
        · rw [if_pos h3]; simp [h3]; omega
        · rw [if_neg h3]; simp [h3]
      · rw [if_neg h2]; simp; omega
    · simp only [if_neg h1]
      by_cases h2 : a = 2
      · simp only [if_pos h2]
        by_cases h3 : b = 0
        · simp [h3]; omega
        · simp [h3]
      · simp [h2]
theorem ref01_Valid_eq (a b : Int) (c : ByteArray) : erasureref01_Valid.f a b c = some (okV ⟨a, b, c⟩) := by
  rw [← value_Valid_eq]
  unfold erasureref01_Valid.f value_Valid.f value_inRange.f
  by_cases h0 : a = 0
  · simp only [if_pos h0]
  · simp only [if_neg h0]
    by_cases h1 : a = 1
    · simp only [if_pos h1]
      by_cases h2 : b ≥ -4294967296
      · simp only [if_pos h2, Option.bind_some, decide_eq_true_eq]
      · simp only [if_neg h2, Option.bind_some, Bool.false_eq_true, if_false]
    · simp only [if_neg h1]
theorem value_Clean_eq (x : S38) : value_Clean.f x.f0 x.f1 x.f2 = some ((clV x).f0, (clV x).f1, (clV x).f2) := by
  unfold value_Clean.f clV
  rw [value_Valid_eq, Option.bind_some]
  by_cases h : okV x = true
  · rw [if_pos h, if_pos h]
  · rw [if_neg h, if_neg h]; rfl
theorem ref01_Clean_eq (x : S38) : erasureref01_Clean.f x.f0 x.f1 x.f2 = some ((clV x).f0, (clV x).f1, (clV x).f2) := by
  unfold erasureref01_Clean.f clV
  rw [ref01_Valid_eq, Option.bind_some]
  by_cases h : okV x = true
  · rw [if_pos h, if_pos h]
  · rw [if_neg h, if_neg h]; rfl
theorem okV_z : okV z38 = true := by decide +kernel
theorem okV_cl (x : S38) : okV (clV x) = true := by
  unfold clV
  by_cases h : okV x = true
  · rw [if_pos h]; exact h
  · rw [if_neg h]; exact okV_z
theorem clV_ok {x : S38} (h : okV x = true) : clV x = x := if_pos h
def cmpI (a b : Int) : Int := if a < b then -1 else if b < a then 1 else 0
def cmpB (a b : ByteArray) : Int := if a.toList < b.toList then -1 else if b.toList < a.toList then 1 else 0
def cmpC (a b : S38) : Int := if a.f0 ≠ b.f0 then cmpI a.f0 b.f0 else if a.f0 = 1 then cmpI a.f1 b.f1 else cmpB a.f2 b.f2
def cmpV (x y : S38) : Int := cmpC (clV x) (clV y)
theorem cmp_int_eq (a b : Int) : cmp_Compare_int.f a b = some (cmpI a b) := by
  unfold cmp_Compare_int.f cmp_isNaN_int.f cmpI
  simp only [Option.bind_some, bne_self_eq_false, Bool.false_eq_true, if_false, GT.gt]
  by_cases h : a < b
  · rw [if_pos h, if_pos h]
  · rw [if_neg h, if_neg h]
    by_cases h2 : b < a
    · rw [if_pos h2, if_pos h2]
    · rw [if_neg h2, if_neg h2]
theorem cmp_int64_eq (a b : Int) : cmp_Compare_int64.f a b = some (cmpI a b) := by
  unfold cmp_Compare_int64.f cmp_isNaN_int64.f cmpI
  simp only [Option.bind_some, bne_self_eq_false, Bool.false_eq_true, if_false, GT.gt]
  by_cases h : a < b
  · rw [if_pos h, if_pos h]
  · rw [if_neg h, if_neg h]
    by_cases h2 : b < a
    · rw [if_pos h2, if_pos h2]
    · rw [if_neg h2, if_neg h2]
theorem cmp_string_eq (a b : ByteArray) : cmp_Compare_string.f a b = some (cmpB a b) := by
  unfold cmp_Compare_string.f cmp_isNaN_string.f cmpB
  simp only [Option.bind_some, bne_self_eq_false, Bool.false_eq_true, if_false, YtjhnpaenhdbhpaaHp.bytesLess_eq, decide_eq_true_eq]
  by_cases h : a.toList < b.toList
  · rw [if_pos h, if_pos h]
  · rw [if_neg h, if_neg h]
    by_cases h2 : b.toList < a.toList
    · rw [if_pos h2, if_pos h2]
    · rw [if_neg h2, if_neg h2]
theorem value_Compare_eq (x y : S38) : value_Compare.f x.f0 x.f1 x.f2 y.f0 y.f1 y.f2 = some (cmpV x y) := by
  unfold value_Compare.f cmpV cmpC
  rw [value_Clean_eq, value_Clean_eq]
  simp only [Option.bind_some, cmp_int_eq, cmp_int64_eq, cmp_string_eq, ne_eq, ite_not]
  by_cases h : (clV x).f0 = (clV y).f0
  · rw [if_pos h, if_pos h]
    by_cases h1 : (clV x).f0 = 1
    · rw [if_pos h1, if_pos h1]
    · rw [if_neg h1, if_neg h1]
  · rw [if_neg h, if_neg h]
theorem ok_cases {x : S38} (h : okV x = true) : (x.f0 = 0 ∧ x.f1 = 0 ∧ x.f2 = (⟨#[]⟩ : ByteArray)) ∨ (x.f0 = 1 ∧ x.f2 = (⟨#[]⟩ : ByteArray)) ∨ (x.f0 = 2 ∧ x.f1 = 0) := by
  unfold okV at h
  by_cases h0 : x.f0 = 0
  · rw [if_pos h0] at h; simp at h; exact .inl ⟨h0, h.1, h.2⟩
  · rw [if_neg h0] at h
    by_cases h1 : x.f0 = 1
    · rw [if_pos h1] at h; simp at h; exact .inr (.inl ⟨h1, h.2⟩)
    · rw [if_neg h1] at h
      by_cases h2 : x.f0 = 2
      · rw [if_pos h2] at h; simp at h; exact .inr (.inr ⟨h2, h.1⟩)
      · rw [if_neg h2] at h; cases h
theorem cmpI_zero {a b : Int} : cmpI a b = 0 ↔ a = b := by unfold cmpI; split <;> (try split) <;> omega
theorem cmpI_neg {a b : Int} : cmpI a b < 0 ↔ a < b := by unfold cmpI; split <;> (try split) <;> omega
theorem listlt_tri (a b : List UInt8) : a < b ∨ a = b ∨ b < a := Std.lt_trichotomy a b
theorem cmpB_zero {a b : ByteArray} : cmpB a b = 0 ↔ a = b := by
  unfold cmpB
  by_cases h : a.toList < b.toList
  · rw [if_pos h]; exact ⟨fun e => by omega, fun e => by subst e; exact absurd h (List.lt_irrefl _)⟩
  · rw [if_neg h]
    by_cases h2 : b.toList < a.toList
    · rw [if_pos h2]; exact ⟨fun e => by omega, fun e => by subst e; exact absurd h2 (List.lt_irrefl _)⟩
    · rw [if_neg h2]
      exact ⟨fun _ => by rcases listlt_tri a.toList b.toList with h3 | h3 | h3
                         · exact absurd h3 h
                         · exact bytes_ext h3
                         · exact absurd h3 h2, fun _ => rfl⟩
theorem cmpB_neg {a b : ByteArray} : cmpB a b < 0 ↔ a.toList < b.toList := by
  unfold cmpB
  by_cases h : a.toList < b.toList
  · rw [if_pos h]; exact ⟨fun _ => h, fun _ => by omega⟩
  · rw [if_neg h]; exact ⟨fun e => by split at e <;> omega, fun e => absurd e h⟩
theorem cmpC_zero {a b : S38} (ha : okV a = true) (hb : okV b = true) : cmpC a b = 0 ↔ a = b := by
  unfold cmpC
  by_cases h : a.f0 = b.f0
  · simp only [ne_eq, h, not_true, if_false]
    rcases ok_cases ha with ⟨a0, a1, a2⟩ | ⟨a0, a2⟩ | ⟨a0, a1⟩ <;> rcases ok_cases hb with ⟨b0, b1, b2⟩ | ⟨b0, b2⟩ | ⟨b0, b1⟩ <;> (try (rw [a0, b0] at h; omega))
    · rw [if_neg (by omega), cmpB_zero]; exact ⟨fun e => V_ext h (by omega) e, fun e => by rw [e]⟩
    · rw [if_pos b0, cmpI_zero]; exact ⟨fun e => V_ext h e (a2.trans b2.symm), fun e => by rw [e]⟩
    · rw [if_neg (by omega), cmpB_zero]; exact ⟨fun e => V_ext h (by omega) e, fun e => by rw [e]⟩
  · rw [if_pos h, cmpI_zero]; exact ⟨fun e => absurd e h, fun e => absurd (by rw [e]) h⟩
theorem cmpC_neg {a b : S38} (ha : okV a = true) (hb : okV b = true) : cmpC a b < 0 ↔ (a.f0 < b.f0 ∨ (a.f0 = b.f0 ∧ (a.f1 < b.f1 ∨ a.f2.toList < b.f2.toList))) := by
  unfold cmpC
  by_cases h : a.f0 = b.f0
  · simp only [ne_eq, h, not_true, if_false, Int.lt_irrefl, false_or, true_and]
    rcases ok_cases ha with ⟨a0, a1, a2⟩ | ⟨a0, a2⟩ | ⟨a0, a1⟩ <;> rcases ok_cases hb with ⟨b0, b1, b2⟩ | ⟨b0, b2⟩ | ⟨b0, b1⟩ <;> (try (rw [a0, b0] at h; omega))
    · rw [if_neg (by omega), cmpB_neg, a1, b1]; simp
    · rw [if_pos b0, cmpI_neg, a2, b2]; exact ⟨.inl, fun e => e.elim id (fun e => absurd e (List.lt_irrefl _))⟩
    · rw [if_neg (by omega), cmpB_neg, a1, b1]; simp
  · rw [if_pos h, cmpI_neg]; exact ⟨.inl, fun e => e.elim id (fun e => absurd e.1 h)⟩
theorem ref01_Compare_eq (x y : S38) : erasureref01_Compare.f x.f0 x.f1 x.f2 y.f0 y.f1 y.f2 = some (cmpV x y) := by
  have hx := okV_cl x
  have hy := okV_cl y
  have hz := cmpC_zero hx hy
  have hn := cmpC_neg hx hy
  have hr : cmpC (clV x) (clV y) = -1 ∨ cmpC (clV x) (clV y) = 0 ∨ cmpC (clV x) (clV y) = 1 := by
    unfold cmpC cmpI cmpB; repeat' split
    all_goals simp
  unfold cmpV erasureref01_Compare.f
  rw [ref01_Clean_eq, ref01_Clean_eq]
  simp only [Option.bind_some]
  generalize clV x = a at *
  generalize clV y = b at *
  by_cases h : a = b
  · rw [hz.2 h]; subst h; simp
  · have h0 : cmpC a b ≠ 0 := fun e => h (hz.1 e)
    have hne : ¬ ((a.f0 == b.f0 && (a.f1 == b.f1 && a.f2.toList == b.f2.toList)) = true) := fun e => h (by
      simp only [Bool.and_eq_true, beq_iff_eq] at e
      exact V_ext e.1 e.2.1 (bytes_ext e.2.2))
    by_cases hlt : cmpC a b < 0
    · have e1 : cmpC a b = -1 := by omega
      have hd := hn.1 hlt
      simp only [hne, YtjhnpaenhdbhpaaHp.bytesLess_eq, decide_eq_true_eq, e1]
      repeat' split
      all_goals first | rfl | (exfalso; simp_all; try omega)
    · have e1 : cmpC a b = 1 := by omega
      have hd : ¬ _ := fun e => hlt (hn.2 e)
      simp only [not_or, not_and] at hd
      simp only [hne, YtjhnpaenhdbhpaaHp.bytesLess_eq, decide_eq_true_eq, e1]
      repeat' split
      all_goals first | rfl | (exfalso; simp_all; try omega)
end Go.Proofs.Ytjhnpaenhdbhpaa.Q
namespace Go.Proofs.Ytjhnpaenhdbhpaa.Q
open Go.RowKit Go.Proofs.Ytjhnpaenhdbhpaa.P Go.Proofs.YtjhnpaenhdbhpaaW.PrintWords Go.Proofs.YtjhnpaenhdbhpaaW.PrintLast
set_option linter.unusedVariables false
set_option linter.unusedSimpArgs false
theorem dV {l : List S38} {i : Nat} (h : i < l.length) : l.drop i = rd_T38 l (i : Int) :: l.drop (i + 1) := drop_cons z38 h
theorem dE {l : List S41} {i : Nat} (h : i < l.length) : l.drop i = rd_T41 l (i : Int) :: l.drop (i + 1) := drop_cons z41 h
def cmpR : List S38 → List S38 → Int
  | [], [] => 0
  | [], _ :: _ => -1
  | _ :: _, [] => 1
  | x :: xs, y :: ys => if cmpV x y = 0 then cmpR xs ys else cmpV x y
theorem value_CompareRows_eq : ∀ (xs ys : List S38), value_CompareRows.f xs ys = some (cmpR xs ys)
  | [], [] => rfl
  | [], _ :: _ => rfl
  | _ :: _, [] => rfl
  | x :: xs, y :: ys => by
    unfold value_CompareRows.f cmpR
    rw [value_Compare_eq, Option.bind_some, value_CompareRows_eq xs ys]
    split <;> rfl
theorem ref01_CompareRows_ev (xs ys : List S38) (hx : xs.length ≤ 9223372036854775807) : Ev (fun k => erasureref01_CompareRows.f k xs ys) (cmpR xs ys) := by
  unfold erasureref01_CompareRows.f
  have hend : ∀ i, i ≤ xs.length → i ≤ ys.length → (i < xs.length → ¬ i < ys.length) → Ev (fun k => erasureref01_CompareRows.j1 k xs ys (i : Int) false) (cmpR (xs.drop i) (ys.drop i)) := by
    intro i hi hiy hn
    refine Ev.succ ?_
    simp only [erasureref01_CompareRows.j1, Bool.false_eq_true, if_false]
    by_cases h : i < xs.length
    · rw [dV h, List.drop_eq_nil_of_le (show ys.length ≤ i by have := hn h; omega)]
      refine Ev.ite_neg (by omega) (Ev.ite_pos (by omega) ?_)
      exact Ev.now _
    · obtain rfl : i = xs.length := by omega
      rw [List.drop_length]
      by_cases h2 : xs.length < ys.length
      · rw [dV h2]; exact Ev.ite_pos (by omega) (Ev.now _)
      · rw [List.drop_eq_nil_of_le (show ys.length ≤ xs.length by omega)]
        exact Ev.ite_neg (by omega) (Ev.ite_neg (by omega) (Ev.now _))
  refine (loop_down (P := fun i => i ≤ ys.length → Ev (fun k => erasureref01_CompareRows.l0 k xs ys (i : Int)) (cmpR (xs.drop i) (ys.drop i))) xs.length ?_ ?_ 0 (by omega)) (by omega)
  · intro _
    refine Ev.succ ?_
    simp only [erasureref01_CompareRows.l0]
    exact Ev.ite_neg (by omega) (hend _ (by omega) ‹_› (by omega))
  · intro i hi ih hy
    refine Ev.succ ?_
    simp only [erasureref01_CompareRows.l0]
    refine Ev.ite_pos (by omega) ?_
    by_cases h : i < ys.length
    · have hd : decide ((i : Int) < (ys.length : Int)) = true := decide_eq_true (by omega)
      rw [hd]
      refine Ev.succ ?_
      simp only [erasureref01_CompareRows.j1, if_true]
      refine Ev.ite_pos (by omega) (Ev.ite_pos (by omega) (Ev.ite_pos (by omega) (Ev.bindc (ref01_Compare_eq _ _) ?_)))
      rw [dV hi, dV h, wrn hi hx]
      unfold cmpR
      by_cases hc : cmpV (rd_T38 xs (i : Int)) (rd_T38 ys (i : Int)) = 0
      · rw [if_pos hc]; exact Ev.ite_pos hc (ih (by omega))
      · rw [if_neg hc]; exact Ev.ite_neg hc (Ev.now _)
    · have hd : decide ((i : Int) < (ys.length : Int)) = false := decide_eq_false (by omega)
      rw [hd]
      exact hend i (by omega) hy (fun _ => h)
def okR (l : List S38) : Bool := l.all okV && decide (l.length ≤ 16)
theorem value_ValidRow_ev (l : List S38) (hl : l.length ≤ 9223372036854775807) : Ev (fun k => value_ValidRow.f k l) (okR l) := by
  unfold value_ValidRow.f
  refine (loop_down (P := fun i => Ev (fun k => value_ValidRow.l0 k l l (l.length : Int) (i : Int)) ((l.drop i).all okV && decide (l.length ≤ 16))) l.length ?_ ?_ 0 (by omega))
  · refine Ev.succ ?_
    simp only [value_ValidRow.l0]
    rw [List.drop_length]
    refine Ev.ite_neg (by omega) (Ev.done ?_)
    simp; omega
  · intro i hi ih
    refine Ev.succ ?_
    simp only [value_ValidRow.l0, value_Valid_eq, Option.bind_some]
    refine Ev.ite_pos (by omega) (Ev.ite_pos (by omega) (Ev.ite_pos (by omega) ?_))
    rw [dV hi, wrn hi hl, List.all_cons]
    show Ev (fun k => if okV (rd_T38 l (i : Int)) = true then _ else _) _
    cases hc : okV (rd_T38 l (i : Int)) with
    | true => exact Ev.ite_pos rfl ih
    | false => exact Ev.ite_neg (by simp) (Ev.now _)
def okE (e : S41) : Bool := okR e.f0 && decide (-262144 ≤ e.f1 ∧ e.f1 ≤ 262144)
theorem countFits_eq (n : Int) : bag_countFits.f n = some (decide (-262144 ≤ n ∧ n ≤ 262144)) := by
  unfold bag_countFits.f
  by_cases h : n ≥ -262144
  · rw [if_pos h]; simp; omega
  · rw [if_neg h]; simp; omega
theorem entryFits_ev (e : S41) (hl : e.f0.length ≤ 9223372036854775807) : Ev (fun k => bag_entryFits.f k e.f0 e.f1) (okE e) := by
  unfold bag_entryFits.f okE
  refine Ev.bind (value_ValidRow_ev _ hl) ?_
  cases hc : okR e.f0 with
  | true => simp only [if_true, countFits_eq, Option.bind_some, Bool.true_and]; exact Ev.now _
  | false => simp only [Bool.false_eq_true, if_false, Bool.false_and]; exact Ev.now _
def bvF : Option S41 → List S41 → Bool
  | _, [] => true
  | none, e :: l => okE e && !decide (e.f1 = 0) && bvF (some e) l
  | some p, e :: l => okE e && !decide (e.f1 = 0) && decide (cmpR p.f0 e.f0 < 0) && bvF (some e) l
def bagV (l : List S41) : Bool := bvF none l && decide (l.length ≤ 4096)
def prevE (l : List S41) (i : Nat) : Option S41 := if i = 0 then none else some (rd_T41 l ((i - 1 : Nat) : Int))
def Fin (l : List S41) : Prop := l.length ≤ 9223372036854775807 ∧ ∀ e ∈ l, e.f0.length ≤ 9223372036854775807
theorem Fin.at {l : List S41} (h : Fin l) {i : Nat} (hi : i < l.length) : (rd_T41 l (i : Int)).f0.length ≤ 9223372036854775807 := by
  refine h.2 _ ?_
  simp [rd_T41, hi]
theorem bag_Valid_ev (l : List S41) (hl : Fin l) : Ev (fun k => bag_Valid.f k l) (bagV l) := by
  unfold bag_Valid.f
  refine (loop_down (P := fun i => Ev (fun k => bag_Valid.l0 k l l (l.length : Int) (i : Int)) (bvF (prevE l i) (l.drop i) && decide (l.length ≤ 4096))) l.length ?_ ?_ 0 (by omega))
  · refine Ev.succ ?_
    simp only [bag_Valid.l0]
    rw [List.drop_length]
    refine Ev.ite_neg (by omega) (Ev.done ?_)
    simp [bvF]; omega
  · intro i hi ih
    have hp : prevE l (i + 1) = some (rd_T41 l (i : Int)) := by simp [prevE]
    rw [hp] at ih
    refine Ev.succ ?_
    simp only [bag_Valid.l0, value_CompareRows_eq, Option.bind_some]
    refine Ev.ite_pos (by omega) (Ev.ite_pos (by omega) (Ev.ite_pos (by omega) (Ev.bind (entryFits_ev _ (hl.at hi)) ?_)))
    rw [dE hi, wrn hi hl.1]
    by_cases h0 : i = 0
    · subst h0
      simp only [prevE, if_true, bvF]
      cases hc : okE (rd_T41 l ((0 : Nat) : Int)) with
      | false => simp only [Bool.false_and]; exact Ev.ite_neg (by simp) (Ev.now _)
      | true =>
        refine Ev.ite_pos rfl ?_
        by_cases hz : (rd_T41 l ((0 : Nat) : Int)).f1 = 0
        · rw [decide_eq_true hz]; exact Ev.ite_pos hz (Ev.now _)
        · rw [decide_eq_false hz]; refine Ev.ite_neg hz (Ev.ite_neg (by omega) ?_); simpa using ih
    · simp only [prevE, if_neg h0, bvF]
      have hl1 := hl.1
      rw [wrp (by omega) (by omega)]
      cases hc : okE (rd_T41 l (i : Int)) with
      | false => simp only [Bool.false_and]; exact Ev.ite_neg (by simp) (Ev.now _)
      | true =>
        refine Ev.ite_pos rfl ?_
        by_cases hz : (rd_T41 l (i : Int)).f1 = 0
        · rw [decide_eq_true hz]; exact Ev.ite_pos hz (Ev.now _)
        · rw [decide_eq_false hz]
          refine Ev.ite_neg hz (Ev.ite_pos (by omega) (Ev.ite_pos (by omega) (Ev.ite_pos (by omega) ?_)))
          by_cases hcmp : cmpR (rd_T41 l ((i - 1 : Nat) : Int)).f0 (rd_T41 l (i : Int)).f0 < 0
          · rw [decide_eq_true hcmp]; exact Ev.ite_neg (by omega) (by simpa using ih)
          · rw [decide_eq_false hcmp]; exact Ev.ite_pos (by omega) (Ev.now _)
end Go.Proofs.Ytjhnpaenhdbhpaa.Q
namespace Go.Proofs.Ytjhnpaenhdbhpaa.Q
open Go.RowKit Go.Proofs.Ytjhnpaenhdbhpaa.P Go.Proofs.YtjhnpaenhdbhpaaW.PrintWords Go.Proofs.YtjhnpaenhdbhpaaW.PrintLast
set_option linter.unusedVariables false
set_option linter.unusedSimpArgs false
theorem dU {l : List S43} {i : Nat} (h : i < l.length) : l.drop i = rd_T43 l (i : Int) :: l.drop (i + 1) := drop_cons z43 h
theorem awake_ev : Ev (fun k => erasurelaw35_awake.f k) true := Ev.of (fun k => erasurelaw35_awake.mono k) (k := 40) (by decide +kernel)
theorem cleaned_ev (l : List S38) (hl : l.length < 4398046511104) : Ev (fun k => release_cleaned.f k l) (l.map clV) := by
  unfold release_cleaned.f
  have key : ∀ i, i ≤ l.length → ∀ acc : List S38, acc.length = i → Ev (fun k => release_cleaned.l0 k l acc (i : Int)) (acc ++ (l.drop i).map clV) := by
    refine loop_down (P := fun i => ∀ acc : List S38, acc.length = i → Ev (fun k => release_cleaned.l0 k l acc (i : Int)) (acc ++ (l.drop i).map clV)) l.length ?_ ?_
    · intro acc _
      refine Ev.succ ?_
      simp only [release_cleaned.l0]
      rw [List.drop_length]
      exact Ev.ite_neg (by omega) (Ev.done (by simp))
    · intro i hi ih acc ha
      refine Ev.succ ?_
      simp only [release_cleaned.l0, value_Clean_eq, Option.bind_some]
      refine Ev.ite_pos (by omega) (Ev.ite_pos (by omega) (Ev.ite_pos (by omega) ?_))
      rw [dV hi, wrn hi (by omega), List.map_cons]
      have := ih (acc ++ [clV (rd_T38 l (i : Int))]) (by simp [ha])
      simpa using this
  simpa using key 0 (by omega) [] rfl
def pubE (T keys : Int) (e : S41) : Option S43 :=
  if e.f1 = 1 ∧ keys < (e.f0.length : Int) ∧ (rd_T38 e.f0 keys).f0 = 1 ∧ T ≤ (rd_T38 e.f0 keys).f1 ∧ (rd_T38 e.f0 keys).f1 ≤ 4294967296 then
    some ⟨(e.f0.take keys.toNat).map clV, (rd_T38 e.f0 keys).f1 - Int.tmod (rd_T38 e.f0 keys).f1 T⟩ else none
def pubS (T keys : Int) (l : List S41) : List S43 := if T < 1 ∨ keys < 0 ∨ bagV l = false then [] else l.filterMap (pubE T keys)
theorem tmod_rng {n T : Int} (h1 : 1 ≤ T) (h2 : T ≤ n) : 0 ≤ Int.tmod n T ∧ Int.tmod n T < T := ⟨Int.tmod_nonneg _ (by omega), Int.tmod_lt_of_pos _ (by omega)⟩
theorem step_ev (T keys : Int) (hT : 1 ≤ T) (hk : 0 ≤ keys) (e : S41) (ys : List S43) (he : e.f0.length < 4398046511104) (hy : ys.length < 4398046511104) :
    Ev (fun k => release_Publish.step k keys T e ys) (ys ++ (pubE T keys e).toList) := by
  unfold release_Publish.step pubE
  by_cases c1 : e.f1 = 1
  · refine Ev.ite_pos c1 ?_
    by_cases c2 : keys < (e.f0.length : Int)
    · refine Ev.ite_pos c2 (Ev.ite_pos hk ?_)
      by_cases c3 : (rd_T38 e.f0 keys).f0 = 1
      · refine Ev.ite_pos c3 ?_
        by_cases c4 : (rd_T38 e.f0 keys).f1 < T
        · refine Ev.ite_pos c4 (Ev.done ?_)
          rw [if_neg (fun h => by omega)]; simp
        · refine Ev.ite_neg c4 ?_
          by_cases c5 : (rd_T38 e.f0 keys).f1 > 4294967296
          · refine Ev.ite_pos c5 (Ev.done ?_)
            rw [if_neg (fun h => by omega)]; simp
          · refine Ev.ite_neg c5 (Ev.bind (cleaned_ev _ (by rw [List.length_take]; omega)) (Ev.ite_neg (by omega) (Ev.ite_pos hy (Ev.done ?_))))
            have hr := tmod_rng hT (show T ≤ (rd_T38 e.f0 keys).f1 by omega)
            rw [if_pos ⟨c1, c2, c3, by omega, by omega⟩, wr (by omega)]
            rfl
      · refine Ev.ite_neg c3 (Ev.done ?_)
        rw [if_neg (fun h => c3 h.2.2.1)]; simp
    · refine Ev.ite_neg c2 (Ev.done ?_)
      rw [if_neg (fun h => c2 h.2.1)]; simp
  · refine Ev.ite_neg c1 (Ev.done ?_)
    rw [if_neg (fun h => c1 h.1)]; simp
theorem go_ev (T keys : Int) (hT : 1 ≤ T) (hk : 0 ≤ keys) : ∀ (l : List S41) (ys : List S43), (∀ e ∈ l, e.f0.length < 4398046511104) → ys.length + l.length < 4398046511104 →
    Ev (fun k => release_Publish.go k keys T l ys) (ys ++ l.filterMap (pubE T keys))
  | [], ys, _, _ => by simp only [release_Publish.go]; exact Ev.done (by simp)
  | e :: l, ys, h1, h2 => by
    simp only [release_Publish.go]
    simp only [List.length_cons] at h2
    refine Ev.bind (step_ev T keys hT hk e ys (h1 e (by simp)) (by omega)) ?_
    have h3 : (ys ++ (pubE T keys e).toList).length + l.length < 4398046511104 := by
      cases pubE T keys e <;> simp <;> omega
    have := go_ev T keys hT hk l (ys ++ (pubE T keys e).toList) (fun x hx => h1 x (by simp [hx])) h3
    cases hp : pubE T keys e with
    | none => rw [hp] at this; rw [List.filterMap_cons_none hp]; simpa using this
    | some u => rw [hp] at this; rw [List.filterMap_cons_some hp]; simpa using this
theorem bvF_mem : ∀ (l : List S41) (p : Option S41), bvF p l = true → ∀ e ∈ l, okE e = true
  | [], _, _, e, he => by cases he
  | x :: l, p, h, e, he => by
    have h1 : okE x = true ∧ bvF (some x) l = true := by
      cases p <;> simp only [bvF, Bool.and_eq_true] at h
      · exact ⟨h.1.1, h.2⟩
      · exact ⟨h.1.1.1, h.2⟩
    rcases List.mem_cons.1 he with rfl | he
    · exact h1.1
    · exact bvF_mem l _ h1.2 e he
theorem bagV_mem {l : List S41} (h : bagV l = true) : ∀ e ∈ l, okE e = true := by
  simp only [bagV, Bool.and_eq_true] at h
  exact bvF_mem l none h.1
theorem bagV_len {l : List S41} (h : bagV l = true) : l.length ≤ 4096 := by
  simp only [bagV, Bool.and_eq_true, decide_eq_true_eq] at h
  exact h.2
theorem okE_len {e : S41} (h : okE e = true) : e.f0.length ≤ 16 := by
  simp only [okE, okR, Bool.and_eq_true, decide_eq_true_eq] at h
  exact h.1.2
theorem Publish_ev (a b : ByteArray) (T keys : Int) (l : List S41) (hl : Fin l) : Ev (fun k => release_Publish.f k a b T keys l) (pubS T keys l) := by
  unfold release_Publish.f pubS
  by_cases c1 : T < 1
  · rw [if_pos (.inl c1)]; exact Ev.ite_pos c1 (Ev.now _)
  · refine Ev.ite_neg c1 ?_
    by_cases c2 : keys < 0
    · rw [if_pos (.inr (.inl c2))]; exact Ev.ite_pos c2 (Ev.now _)
    · refine Ev.ite_neg c2 (Ev.bind (bag_Valid_ev l hl) ?_)
      cases hb : bagV l with
      | false => simp only [Bool.false_eq_true, if_false]; rw [if_pos (by simp)]; exact Ev.now _
      | true =>
        simp only [if_true]
        rw [if_neg (by simp; omega)]
        have := go_ev T keys (by omega) (by omega) l [] (fun e he => by have := okE_len (bagV_mem hb e he); omega) (by have := bagV_len hb; simp; omega)
        simpa using this
end Go.Proofs.Ytjhnpaenhdbhpaa.Q
namespace Go.Proofs.Ytjhnpaenhdbhpaa.Q
open Go.RowKit Go.Proofs.Ytjhnpaenhdbhpaa.P Go.Proofs.YtjhnpaenhdbhpaaW.PrintWords Go.Proofs.YtjhnpaenhdbhpaaW.PrintLast
set_option linter.unusedVariables false
set_option linter.unusedSimpArgs false
instance : DecidableEq S38 := fun x y => decidable_of_iff (x.f0 = y.f0 ∧ x.f1 = y.f1 ∧ x.f2 = y.f2) ⟨fun h => V_ext h.1 h.2.1 h.2.2, fun h => by subst h; exact ⟨rfl, rfl, rfl⟩⟩
end Go.Proofs.Ytjhnpaenhdbhpaa.Q
namespace Go.Proofs.Ytjhnpaenhdbhpaa.Q
open Go.RowKit Go.Proofs.Ytjhnpaenhdbhpaa.P Go.Proofs.YtjhnpaenhdbhpaaW.PrintWords Go.Proofs.YtjhnpaenhdbhpaaW.PrintLast
set_option linter.unusedVariables false
set_option linter.unusedSimpArgs false
def intV (n : Int) : S38 := ⟨1, n, ⟨#[]⟩⟩
theorem okV_int {n : Int} (h : -4294967296 ≤ n ∧ n ≤ 4294967296) : okV (intV n) = true := by
  unfold okV intV
  rw [if_neg (show ¬ ((1 : Int) = 0) by decide), if_pos rfl]
  simp [h]
theorem ref01_Int_eq {n : Int} (h : -4294967296 ≤ n ∧ n ≤ 4294967296) : erasureref01_Int.f n = some (1, n, ⟨#[]⟩) := by
  unfold erasureref01_Int.f
  have := ref01_Clean_eq (intV n)
  rw [clV_ok (okV_int h)] at this
  have e : erasureref01_Clean.f 1 n ⟨#[]⟩ = some (1, n, ⟨#[]⟩) := this
  rw [e]; rfl
def rowG (i : Nat) (n : Int) : S41 := ⟨[intV i, intV n], 1⟩
def grpS : Nat → List Int → List S41
  | _, [] => []
  | i, c :: l => if i < 40 then (if c % 1024 > 0 then [rowG i (c % 1024)] else []) ++ grpS (i + 1) l else []
theorem rd_at (l : List Int) {i : Nat} (h : i < l.length) : l.drop i = rd l (i : Int) :: l.drop (i + 1) := drop_cons 0 h
theorem grpS_over : ∀ (l : List Int) (i : Nat), ¬ i < 40 → grpS i l = []
  | [], _, _ => rfl
  | _ :: _, _, h => by unfold grpS; rw [if_neg h]
theorem Groups_ev (l : List Int) (hl : l.length ≤ 9223372036854775807) : Ev (fun k => erasurelaw35_Groups.f k l) (grpS 0 l) := by
  unfold erasurelaw35_Groups.f
  have hend : ∀ i, ∀ acc : List S41, (i ≤ l.length) → (¬ i < l.length ∨ ¬ i < 40) → Ev (fun k => erasurelaw35_Groups.j1 k l acc (i : Int) false) (acc ++ grpS i (l.drop i)) := by
    intro i acc hi hn
    refine Ev.succ ?_
    simp only [erasurelaw35_Groups.j1, Bool.false_eq_true, if_false]
    refine Ev.done ?_
    rcases hn with hn | hn
    · rw [List.drop_eq_nil_of_le (by omega)]; simp [grpS]
    · rw [grpS_over _ _ hn]; simp
  have key : ∀ i, i ≤ l.length → ∀ acc : List S41, acc.length ≤ 40 → acc.length ≤ i → Ev (fun k => erasurelaw35_Groups.l0 k l acc (i : Int)) (acc ++ grpS i (l.drop i)) := by
    refine loop_down (P := fun i => ∀ acc : List S41, acc.length ≤ 40 → acc.length ≤ i → Ev (fun k => erasurelaw35_Groups.l0 k l acc (i : Int)) (acc ++ grpS i (l.drop i))) l.length ?_ ?_
    · intro acc _ _
      refine Ev.succ ?_
      simp only [erasurelaw35_Groups.l0]
      exact Ev.ite_neg (by omega) (hend _ acc (Nat.le_refl _) (.inl (by omega)))
    · intro i hi ih acc h1 h2
      refine Ev.succ ?_
      simp only [erasurelaw35_Groups.l0]
      refine Ev.ite_pos (by omega) ?_
      by_cases h40 : i < 40
      · have hd : decide ((i : Int) < 40) = true := decide_eq_true (by omega)
        rw [hd]
        refine Ev.succ ?_
        simp only [erasurelaw35_Groups.j1, if_true, and1023]
        refine Ev.ite_pos (by omega) (Ev.ite_pos (by omega) ?_)
        rw [rd_at l hi, wrn hi hl]
        unfold grpS
        rw [if_pos h40]
        have hm : 0 ≤ rd l (i : Int) % 1024 ∧ rd l (i : Int) % 1024 < 1024 := by omega
        by_cases hg : rd l (i : Int) % 1024 > 0
        · rw [if_pos hg]
          refine Ev.ite_pos hg (Ev.bindc (ref01_Int_eq (by omega)) (Ev.bindc (ref01_Int_eq (by omega)) (Ev.ite_pos (by omega) ?_)))
          have := ih (acc ++ [rowG i (rd l (i : Int) % 1024)]) (by simp; omega) (by simp; omega)
          simpa [rowG, intV] using this
        · rw [if_neg hg]
          exact Ev.ite_neg hg (by simpa using ih acc h1 (by omega))
      · have hd : decide ((i : Int) < 40) = false := decide_eq_false (by omega)
        rw [hd]
        exact hend i acc (by omega) (.inr h40)
  simpa using key 0 (by omega) [] (by simp) (by simp)
def IsG : Nat → List S41 → Prop
  | _, [] => True
  | i, e :: l => ∃ (a : Nat) (n : Int), i ≤ a ∧ a < 40 ∧ 0 < n ∧ n < 1024 ∧ e = rowG a n ∧ IsG (a + 1) l
theorem IsG.le : ∀ {l : List S41} {i j : Nat}, IsG j l → i ≤ j → IsG i l
  | [], _, _, _, _ => trivial
  | _ :: _, _, _, ⟨a, n, h1, h2, h3, h4, h5, h6⟩, h => ⟨a, n, by omega, h2, h3, h4, h5, h6⟩
theorem grpS_is : ∀ (l : List Int) (i : Nat), IsG i (grpS i l)
  | [], _ => trivial
  | c :: l, i => by
    unfold grpS
    by_cases h : i < 40
    · rw [if_pos h]
      by_cases hc : c % 1024 > 0
      · rw [if_pos hc]
        exact ⟨i, c % 1024, Nat.le_refl _, h, hc, by omega, rfl, grpS_is l (i + 1)⟩
      · rw [if_neg hc]
        exact (grpS_is l (i + 1)).le (by omega)
    · rw [if_neg h]; trivial
theorem cmpV_int {a b : Int} (ha : -4294967296 ≤ a ∧ a ≤ 4294967296) (hb : -4294967296 ≤ b ∧ b ≤ 4294967296) : cmpV (intV a) (intV b) = cmpI a b := by
  unfold cmpV
  rw [clV_ok (okV_int ha), clV_ok (okV_int hb)]
  rfl
theorem okE_rowG {a : Nat} {n : Int} (ha : a < 40) (hn : 0 < n ∧ n < 1024) : okE (rowG a n) = true := by
  unfold okE okR rowG
  simp [okV_int (show -4294967296 ≤ (a : Int) ∧ (a : Int) ≤ 4294967296 by omega), okV_int (show -4294967296 ≤ n ∧ n ≤ 4294967296 by omega)]
theorem IsG.bvF : ∀ {l : List S41} {i : Nat} (p : Option S41), IsG i l → (∀ e, p = some e → ∃ (a : Nat) (n : Int), a < i ∧ a < 40 ∧ 0 < n ∧ n < 1024 ∧ e = rowG a n) → Q.bvF p l = true
  | [], _, p, _, _ => by cases p <;> rfl
  | e :: l, i, p, ⟨a, n, h1, h2, h3, h4, h5, h6⟩, hp => by
    subst h5
    have ht := IsG.bvF (some (rowG a n)) h6 (fun e he => ⟨a, n, by omega, h2, h3, h4, (Option.some.inj he).symm⟩)
    have hk := okE_rowG h2 ⟨h3, h4⟩
    cases p with
    | none => simp only [Q.bvF, hk, ht]; simp [rowG]
    | some q =>
      obtain ⟨b, m, b1, b2, b3, b4, rfl⟩ := hp q rfl
      have hc : cmpR (rowG b m).f0 (rowG a n).f0 < 0 := by
        show cmpR [intV b, intV m] [intV a, intV n] < 0
        unfold cmpR
        have e1 : cmpV (intV b) (intV a) = cmpI b a := cmpV_int (by omega) (by omega)
        have e2 : cmpI (b : Int) (a : Int) < 0 := cmpI_neg.2 (by omega)
        rw [e1, if_neg (by omega)]; exact e2
      simp only [Q.bvF, hk, ht, decide_eq_true hc]; simp [rowG]
theorem IsG.len : ∀ {l : List S41} {i : Nat}, IsG i l → l.length + i ≤ 40 ∨ l = []
  | [], _, _ => .inr rfl
  | e :: l, i, ⟨a, n, h1, h2, h3, h4, h5, h6⟩ => by
    rcases h6.len with h | h
    · left; simp; omega
    · subst h; left; simp; omega
theorem IsG.len40 {l : List S41} {i : Nat} (h : IsG i l) : l.length ≤ 40 := by
  rcases h.len with h | h
  · omega
  · subst h; simp
theorem IsG.bagV {l : List S41} {i : Nat} (h : IsG i l) : Q.bagV l = true := by
  unfold Q.bagV
  rw [h.bvF none (fun e he => by cases he), decide_eq_true (by have := h.len40; omega)]; rfl
theorem IsG.fin {l : List S41} : ∀ {i : Nat}, IsG i l → Fin l := by
  intro i h
  refine ⟨by have := h.len40; omega, fun e he => ?_⟩
  have := okE_len (bagV_mem h.bagV e he)
  omega
def limS (n : Int) : Int := 1 + n % 16
theorem limit_eq (n : Int) : erasurelaw35_limit.f n = some (⟨#[]⟩, ⟨#[]⟩, limS n) := by
  unfold erasurelaw35_limit.f limS
  rw [and15, wr (by omega)]
theorem limS_rng (n : Int) : 1 ≤ limS n ∧ limS n ≤ 16 := by unfold limS; omega
def pubG (T : Int) (a : Nat) (n : Int) : S43 := ⟨[intV a], n - Int.tmod n T⟩
theorem pubE_rowG {T : Int} {a : Nat} {n : Int} (ha : a < 40) (hn : 0 < n ∧ n < 1024) : pubE T 1 (rowG a n) = if T ≤ n then some (pubG T a n) else none := by
  unfold pubE rowG pubG
  have e1 : rd_T38 [intV a, intV n] 1 = intV n := rfl
  simp only [e1, List.length_cons, List.length_nil]
  have e2 : (List.take (Int.toNat 1) [intV a, intV n]).map clV = [intV a] := by
    show [clV (intV a)] = [intV a]
    rw [clV_ok (okV_int (by omega))]
  rw [e2]
  by_cases h : T ≤ n
  · rw [if_pos ⟨trivial, by omega, rfl, h, by show n ≤ _; omega⟩, if_pos h]; rfl
  · rw [if_neg (fun x => h x.2.2.2.1), if_neg h]
theorem pubS_grp {T : Int} (hT : 1 ≤ T) {l : List S41} {i : Nat} (h : IsG i l) : pubS T 1 l = l.filterMap (pubE T 1) := by
  unfold pubS
  rw [if_neg (by rw [h.bagV]; simp; omega)]
end Go.Proofs.Ytjhnpaenhdbhpaa.Q
namespace Go.Proofs.Ytjhnpaenhdbhpaa.Q
open Go.RowKit Go.Proofs.Ytjhnpaenhdbhpaa.P Go.Proofs.YtjhnpaenhdbhpaaW.PrintWords Go.Proofs.YtjhnpaenhdbhpaaW.PrintLast
set_option linter.unusedVariables false
set_option linter.unusedSimpArgs false
theorem U_ext {x y : S43} (h0 : x.f0 = y.f0) (h1 : x.f1 = y.f1) : x = y := by cases x; cases y; simp_all
instance : DecidableEq S43 := fun x y => decidable_of_iff (x.f0 = y.f0 ∧ x.f1 = y.f1) ⟨fun h => U_ext h.1 h.2, fun h => by subst h; exact ⟨rfl, rfl⟩⟩
def FinU (l : List S43) : Prop := l.length ≤ 9223372036854775807 ∧ ∀ e ∈ l, e.f0.length ≤ 9223372036854775807
theorem FinU.at {l : List S43} (h : FinU l) {i : Nat} (hi : i < l.length) : (rd_T43 l (i : Int)).f0.length ≤ 9223372036854775807 := by
  refine h.2 _ ?_
  simp [rd_T43, hi]
theorem pubE_len {T keys : Int} {e : S41} {u : S43} (h : pubE T keys e = some u) : u.f0.length ≤ e.f0.length := by
  unfold pubE at h
  split at h
  · rw [← Option.some.inj h]; simp; omega
  · cases h
theorem pubS_fin {T keys : Int} {l : List S41} (hl : Fin l) : FinU (pubS T keys l) := by
  unfold pubS
  split
  · exact ⟨by simp, fun e he => by cases he⟩
  · refine ⟨Nat.le_trans (List.length_filterMap_le _ _) hl.1, fun u hu => ?_⟩
    obtain ⟨e, he, h⟩ := List.mem_filterMap.1 hu
    exact Nat.le_trans (pubE_len h) (hl.2 e he)
end Go.Proofs.Ytjhnpaenhdbhpaa.Q
namespace Go.Proofs.Ytjhnpaenhdbhpaa.Q
open Go.RowKit Go.Proofs.Ytjhnpaenhdbhpaa.P Go.Proofs.YtjhnpaenhdbhpaaW.PrintWords Go.Proofs.YtjhnpaenhdbhpaaW.PrintLast
set_option linter.unusedVariables false
set_option linter.unusedSimpArgs false
def rvF (T : Int) : Option S43 → List S43 → Bool
  | _, [] => true
  | none, e :: l => decide (1 ≤ e.f1) && decide (Int.tmod e.f1 T = 0) && rvF T (some e) l
  | some p, e :: l => decide (1 ≤ e.f1) && decide (Int.tmod e.f1 T = 0) && decide (cmpR p.f0 e.f0 < 0) && rvF T (some e) l
def prevU (l : List S43) (i : Nat) : Option S43 := if i = 0 then none else some (rd_T43 l ((i - 1 : Nat) : Int))
def relV (T : Int) (l : List S43) : Bool := decide (1 ≤ T) && rvF T none l
theorem relValid_ev (a b : ByteArray) (T : Int) (l : List S43) (hl : FinU l) : Ev (fun k => release_Valid.f k a b T l) (relV T l) := by
  unfold release_Valid.f relV
  by_cases hT : T < 1
  · rw [decide_eq_false (show ¬ 1 ≤ T by omega)]; exact Ev.ite_pos hT (Ev.now _)
  · rw [decide_eq_true (show 1 ≤ T by omega), Bool.true_and]
    refine Ev.ite_neg hT ?_
    refine (loop_down (P := fun i => Ev (fun k => release_Valid.l0 k l (i : Int) a b T) (rvF T (prevU l i) (l.drop i))) l.length ?_ ?_ 0 (by omega))
    · refine Ev.succ ?_
      simp only [release_Valid.l0]
      rw [List.drop_length]
      refine Ev.ite_neg (by omega) (Ev.done ?_)
      simp [rvF]
    · intro i hi ih
      have hp : prevU l (i + 1) = some (rd_T43 l (i : Int)) := by simp [prevU]
      rw [hp] at ih
      refine Ev.succ ?_
      simp only [release_Valid.l0, value_CompareRows_eq, Option.bind_some]
      refine Ev.ite_pos (by omega) (Ev.ite_pos (by omega) ?_)
      rw [dU hi, wrn hi hl.1]
      have hl1 := hl.1
      by_cases h1 : 1 ≤ (rd_T43 l (i : Int)).f1
      · refine Ev.ite_neg (by omega) (Ev.ite_neg (by omega) ?_)
        by_cases h2 : Int.tmod (rd_T43 l (i : Int)).f1 T = 0
        · refine Ev.ite_pos h2 ?_
          by_cases h0 : i = 0
          · subst h0
            simp only [prevU, if_true, rvF, decide_eq_true h1, decide_eq_true h2, Bool.true_and]
            exact Ev.ite_neg (by omega) ih
          · simp only [prevU, if_neg h0, rvF, decide_eq_true h1, decide_eq_true h2, Bool.true_and]
            rw [wrp (by omega) (by omega)]
            refine Ev.ite_pos (by omega) (Ev.ite_pos (by omega) (Ev.ite_pos (by omega) ?_))
            by_cases hc : cmpR (rd_T43 l ((i - 1 : Nat) : Int)).f0 (rd_T43 l (i : Int)).f0 < 0
            · rw [decide_eq_true hc]; exact Ev.ite_neg (by omega) (by simpa using ih)
            · rw [decide_eq_false hc]; exact Ev.ite_pos (by omega) (Ev.now _)
        · refine Ev.ite_neg h2 (Ev.done ?_)
          by_cases h0 : i = 0
          · subst h0; simp only [prevU, if_true, rvF, decide_eq_false h2, Bool.and_false, Bool.false_and]
          · simp only [prevU, if_neg h0, rvF, decide_eq_false h2, Bool.and_false, Bool.false_and]
      · refine Ev.ite_pos (by omega) (Ev.done ?_)
        by_cases h0 : i = 0
        · subst h0; simp only [prevU, if_true, rvF, decide_eq_false h1, Bool.false_and]
        · simp only [prevU, if_neg h0, rvF, decide_eq_false h1, Bool.false_and]
theorem refRelValid_ev (a b : ByteArray) (T : Int) (l : List S43) (hl : FinU l) : Ev (fun k => erasureref35_Valid.f k a b T l) (relV T l) := by
  unfold erasureref35_Valid.f relV
  by_cases hT : T < 1
  · rw [decide_eq_false (show ¬ 1 ≤ T by omega)]
    refine Ev.succ ?_
    simp only [erasureref35_Valid.l0]
    by_cases hn : (0 : Int) < (l.length : Int)
    · exact Ev.ite_pos hn (Ev.ite_pos hT (Ev.now _))
    · exact Ev.ite_neg hn (Ev.done (by simp; omega))
  · rw [decide_eq_true (show 1 ≤ T by omega), Bool.true_and]
    refine (loop_down (P := fun i => Ev (fun k => erasureref35_Valid.l0 k l (i : Int) a b T) (rvF T (prevU l i) (l.drop i))) l.length ?_ ?_ 0 (by omega))
    · refine Ev.succ ?_
      simp only [erasureref35_Valid.l0]
      rw [List.drop_length]
      refine Ev.ite_neg (by omega) (Ev.done ?_)
      simp [rvF]; omega
    · intro i hi ih
      have hp : prevU l (i + 1) = some (rd_T43 l (i : Int)) := by simp [prevU]
      rw [hp] at ih
      refine Ev.succ ?_
      simp only [erasureref35_Valid.l0]
      refine Ev.ite_pos (by omega) (Ev.ite_neg hT (Ev.ite_pos (by omega) ?_))
      rw [dU hi, wrn hi hl.1]
      have hl1 := hl.1
      by_cases h1 : 1 ≤ (rd_T43 l (i : Int)).f1
      · refine Ev.ite_neg (by omega) (Ev.ite_neg (by omega) ?_)
        by_cases h2 : Int.tmod (rd_T43 l (i : Int)).f1 T = 0
        · refine Ev.ite_pos h2 ?_
          by_cases h0 : i = 0
          · subst h0
            simp only [prevU, if_true, rvF, decide_eq_true h1, decide_eq_true h2, Bool.true_and]
            exact Ev.ite_neg (by omega) ih
          · simp only [prevU, if_neg h0, rvF, decide_eq_true h1, decide_eq_true h2, Bool.true_and]
            rw [wrp (by omega) (by omega)]
            refine Ev.ite_pos (by omega) (Ev.ite_pos (by omega) (Ev.ite_pos (by omega) (Ev.bind (ref01_CompareRows_ev _ _ (hl.at (show i - 1 < l.length by omega))) ?_)))
            by_cases hc : cmpR (rd_T43 l ((i - 1 : Nat) : Int)).f0 (rd_T43 l (i : Int)).f0 < 0
            · rw [decide_eq_true hc]; exact Ev.ite_neg (by omega) (by simpa using ih)
            · rw [decide_eq_false hc]; exact Ev.ite_pos (by omega) (Ev.now _)
        · refine Ev.ite_neg h2 (Ev.done ?_)
          by_cases h0 : i = 0
          · subst h0; simp only [prevU, if_true, rvF, decide_eq_false h2, Bool.and_false, Bool.false_and]
          · simp only [prevU, if_neg h0, rvF, decide_eq_false h2, Bool.and_false, Bool.false_and]
      · refine Ev.ite_pos (by omega) (Ev.done ?_)
        by_cases h0 : i = 0
        · subst h0; simp only [prevU, if_true, rvF, decide_eq_false h1, Bool.false_and]
        · simp only [prevU, if_neg h0, rvF, decide_eq_false h1, Bool.false_and]
theorem few_ev (l : List S43) (hl : l.length ≤ 9223372036854775807) : Ev (fun k => erasurelaw35_few.f k l) (l.all (fun e => decide (e.f0.length ≤ 20)) && decide (l.length ≤ 30)) := by
  unfold erasurelaw35_few.f
  refine (loop_down (P := fun i => Ev (fun k => erasurelaw35_few.l0 k l (i : Int)) ((l.drop i).all (fun e => decide (e.f0.length ≤ 20)) && decide (l.length ≤ 30))) l.length ?_ ?_ 0 (by omega))
  · refine Ev.succ ?_
    simp only [erasurelaw35_few.l0]
    rw [List.drop_length]
    refine Ev.ite_neg (by omega) (Ev.done ?_)
    simp; omega
  · intro i hi ih
    refine Ev.succ ?_
    simp only [erasurelaw35_few.l0]
    refine Ev.ite_pos (by omega) (Ev.ite_pos (by omega) ?_)
    rw [dU hi, wrn hi hl, List.all_cons]
    by_cases h : (rd_T43 l (i : Int)).f0.length ≤ 20
    · rw [decide_eq_true h]; exact Ev.ite_neg (by omega) (by simpa using ih)
    · rw [decide_eq_false h]; exact Ev.ite_pos (by omega) (Ev.done (by simp))
theorem pubG_ok {T : Int} (hT : 1 ≤ T) {n : Int} (hn : T ≤ n) : 1 ≤ n - Int.tmod n T ∧ Int.tmod (n - Int.tmod n T) T = 0 ∧ n - Int.tmod n T ≤ n := by
  have hr := tmod_rng hT hn
  refine ⟨by omega, ?_, by omega⟩
  have : n - Int.tmod n T = T * (Int.tdiv n T) := by have := Int.mul_tdiv_add_tmod n T; omega
  rw [this]; exact Int.mul_tmod_right _ _
theorem cmpR_int {a b : Nat} (h : a < b) (hb : b < 40) : cmpR [intV a] [intV b] < 0 := by
  unfold cmpR
  have e1 : cmpV (intV a) (intV b) = cmpI a b := cmpV_int (by omega) (by omega)
  have e2 : cmpI (a : Int) (b : Int) < 0 := cmpI_neg.2 (by omega)
  rw [e1, if_neg (by omega)]; exact e2
theorem IsG.rv {T : Int} (hT : 1 ≤ T) : ∀ {l : List S41} {i : Nat} (p : Option S43), IsG i l → (∀ e, p = some e → ∃ (a : Nat), a < i ∧ a < 40 ∧ e.f0 = [intV a]) → rvF T p (l.filterMap (pubE T 1)) = true
  | [], _, p, _, _ => by cases p <;> rfl
  | e :: l, i, p, ⟨a, n, h1, h2, h3, h4, h5, h6⟩, hp => by
    subst h5
    by_cases hn : T ≤ n
    · rw [List.filterMap_cons_some (by rw [pubE_rowG h2 ⟨h3, h4⟩, if_pos hn])]
      have ht := IsG.rv hT (some (pubG T a n)) h6 (fun e he => ⟨a, by omega, h2, by rw [← Option.some.inj he]; rfl⟩)
      have ho := pubG_ok hT hn
      have e1 : (pubG T a n).f1 = n - Int.tmod n T := rfl
      cases p with
      | none => simp only [rvF, e1, ht, decide_eq_true ho.1, decide_eq_true ho.2.1, Bool.true_and]
      | some q =>
        obtain ⟨b, b1, b2, b3⟩ := hp q rfl
        have hc : cmpR q.f0 (pubG T a n).f0 < 0 := by rw [b3]; exact cmpR_int (by omega) h2
        simp only [rvF, e1, ht, decide_eq_true ho.1, decide_eq_true ho.2.1, decide_eq_true hc, Bool.true_and]
    · rw [List.filterMap_cons_none (by rw [pubE_rowG h2 ⟨h3, h4⟩, if_neg hn])]
      exact IsG.rv hT p h6 (fun e he => by obtain ⟨b, b1, b2, b3⟩ := hp e he; exact ⟨b, by omega, b2, b3⟩)
theorem ReleaseValid_std (x0 : S23) (x1 : List S43) (x2 : List Int) (h0 : (x0.f0.size ≤ maxLen ∧ (x0.f1.size ≤ maxLen ∧ (Lit.int .i64 x0.f2).wf = true))) (h1 : (x1.length ≤ maxLen ∧ ∀ e0 ∈ x1, ((e0.f0.length ≤ maxLen ∧ ∀ e1 ∈ e0.f0, ((Lit.int .i64 e1.f0).wf = true ∧ ((Lit.int .i64 e1.f1).wf = true ∧ e1.f2.size ≤ maxLen))) ∧ (Lit.int .i64 e0.f1).wf = true))) (h2 : (x2.length ≤ maxLen ∧ ∀ e0 ∈ x2, (Lit.int .i64 e0).wf = true)) :
    ∃ k, erasurelaw35_ReleaseValid.f k x0.f0 x0.f1 x0.f2 x1 x2 = some true := by
  have hf : FinU x1 := ⟨by have := h1.1; simp only [maxLen] at this; omega, fun e he => by have := (h1.2 e he).1.1; simp only [maxLen] at this; omega⟩
  have hl : x2.length ≤ 9223372036854775807 := by have := h2.1; simp only [maxLen] at this; omega
  refine Ev.rounds (g := fun k => erasurelaw35_ReleaseValid.f k x0.f0 x0.f1 x0.f2 x1 x2) ?_
  unfold erasurelaw35_ReleaseValid.f
  refine Ev.bind (few_ev x1 hf.1) ?_
  cases hs : (x1.all (fun e => decide (e.f0.length ≤ 20)) && decide (x1.length ≤ 30)) with
  | false => exact Ev.ite_neg (by simp) (Ev.bind awake_ev (Ev.now _))
  | true =>
    have hT := limS_rng x0.f2
    have hg := grpS_is x2 0
    have hp := pubS_fin (T := limS x0.f2) (keys := 1) hg.fin
    have hv : relV (limS x0.f2) (pubS (limS x0.f2) 1 (grpS 0 x2)) = true := by
      unfold relV
      rw [decide_eq_true hT.1, pubS_grp hT.1 hg, hg.rv hT.1 none (fun e he => by cases he)]; rfl
    refine Ev.ite_pos rfl (Ev.bindc (limit_eq _) (Ev.bind (relValid_ev _ _ _ _ hf) (Ev.bind (refRelValid_ev _ _ _ _ hf) (Ev.ite_pos (by simp) (Ev.bind (Groups_ev _ hl) (Ev.bind (Publish_ev _ _ _ _ _ hg.fin) (Ev.bind (relValid_ev _ _ _ _ hp) ?_)))))))
    rw [hv]
    exact Ev.ite_pos rfl (Ev.bind awake_ev (Ev.now _))
end Go.Proofs.Ytjhnpaenhdbhpaa.Q
namespace Go.Proofs.Ytjhnpaenhdbhpaa.Q
open Go.RowKit Go.Proofs.Ytjhnpaenhdbhpaa.P Go.Proofs.YtjhnpaenhdbhpaaW.PrintWords Go.Proofs.YtjhnpaenhdbhpaaW.PrintLast
set_option linter.unusedVariables false
set_option linter.unusedSimpArgs false
structure Opens {α : Type} (P : Program) (t : TypeId) (d : Kd α) (B : α → Prop) : Prop where mk ::
  out : ∀ {H : Type} (enc : TypeId × Value → H) (W : World) (fuel : Nat) (cs : List Value) (y : DataW H × List MemPlace), DataW.trod enc P W 0 (fun _ => true) true fuel t cs = some y → ∃ x, d.K W x cs ∧ B x
theorem opens_int {P : Program} {t : TypeId} {k : IntKind} (ht : P.underlying t = some (.int k)) : Opens P t (Kd.int k) (fun n => (Lit.int k n).wf = true) := by
  constructor
  intro H enc W fuel cs y h
  obtain ⟨n, rfl, _, hw⟩ := DataW.trod_int ht h
  exact ⟨n, rfl, hw⟩
theorem opens_string {P : Program} {t : TypeId} (ht : P.underlying t = some .string) : Opens P t Kd.string (fun s => s.size ≤ maxLen) := by
  constructor
  intro H enc W fuel cs y h
  obtain ⟨n, rfl, _, hs⟩ := DataW.trod_string ht h
  exact ⟨n, rfl, hs⟩
theorem opens_slice {α : Type} {P : Program} {t e : TypeId} {d : Kd α} {B : α → Prop} (ht : P.underlying t = some (.slice e)) (hd : Opens P e d B) (hc : P.cellsOf e = d.sz) : Opens P t (Kd.slice e d) (fun xs => xs.length ≤ maxLen ∧ ∀ x ∈ xs, B x) := by
  constructor
  intro H enc W fuel cs y h
  rcases DataW.trod_slice ht h with ⟨rfl, _⟩ | ⟨a, len, cap, elems, rest, n, _, rfl, _, _, hl, hm, hel, hat, _, _⟩
  · exact ⟨[], ⟨none, 0, rfl, Nat.le_refl _, Kd.C_nil d W⟩, by simp [maxLen], fun x hx => by cases hx⟩
  · have key : ∀ i, i < len → ∃ x cs', cs'.length = d.sz ∧ d.K W x cs' ∧ B x ∧ ∀ j u, cs'[j]? = some u → W.cell? (a.add (i * d.sz + j)) = some u := by
      intro i hi
      have h1 := hat i hi
      rw [List.getElem?_eq_getElem (by omega)] at h1
      obtain ⟨cs', h2, h3⟩ := Option.bind_eq_some_iff.1 h1
      obtain ⟨x, hk, hb⟩ := hd.out enc W n cs' _ h3
      refine ⟨x, cs', d.K_len hk, hk, hb, fun j u hu => ?_⟩
      rw [hc] at h2
      unfold World.cells? at h2
      rw [if_pos (Nat.zero_le _)] at h2
      have h4 := mapM_some_get h2 j j (by
        have := (List.getElem?_eq_some_iff.1 hu).1
        rw [d.K_len hk] at this
        simp [this])
      rw [hu] at h4
      have ha : (a.add (i * d.sz)).add j = a.add (i * d.sz + j) := by
        unfold Addr.add
        by_cases e1 : i * d.sz = 0 <;> by_cases e2 : j = 0 <;> simp [e1, e2, Nat.add_assoc]
      rw [ha] at h4
      exact h4
    have key2 : ∀ m, m ≤ len → ∃ xs : List α, xs.length = m ∧ (∀ x ∈ xs, B x) ∧ ∀ i x, xs[i]? = some x → ∃ c, c.length = d.sz ∧ d.K W x c ∧ ∀ j u, c[j]? = some u → W.cell? (a.add (i * d.sz + j)) = some u := by
      intro m
      induction m with
      | zero => intro _; exact ⟨[], rfl, fun x hx => (by cases hx), fun i x hx => by simp at hx⟩
      | succ m ih =>
        intro hm2
        obtain ⟨xs, h1, h2, h3⟩ := ih (by omega)
        obtain ⟨x, c, h4, h5, h6, h7⟩ := key m (by omega)
        refine ⟨xs ++ [x], by simp [h1], fun y hy => ?_, fun i y hy => ?_⟩
        · rcases List.mem_append.1 hy with hy | hy
          · exact h2 y hy
          · rw [List.mem_singleton.1 hy]; exact h6
        · rcases Nat.lt_or_ge i xs.length with hi | hi
          · rw [List.getElem?_append_left hi] at hy; exact h3 i y hy
          · have hi2 : i = xs.length := by
              have := (List.getElem?_eq_some_iff.1 hy).1
              simp at this
              omega
            subst hi2
            simp at hy
            subst hy
            rw [h1]
            exact ⟨c, h4, h5, h7⟩
    obtain ⟨xs, h1, h2, h3⟩ := key2 len (Nat.le_refl _)
    refine ⟨xs, ⟨some a, cap, by rw [h1], by omega, rfl, by rw [h1]; simp only [maxLen] at hm; omega, fun hp => ⟨a, rfl, h3⟩⟩, by rw [h1]; simp only [maxLen] at hm ⊢; omega, h2⟩
structure OpensFs {α : Type} (P : Program) (fs : List Field) (off : Nat) (d : Kd α) (B : α → Prop) : Prop where mk ::
  out : ∀ {H : Type} (enc : TypeId × Value → H) (W : World) (fuel : Nat) (cs : List Value) (ys : List (DataW H × List MemPlace)), cs.length = off + d.sz → ys.length = fs.length →
    (∀ (i : Nat) (f : Field), fs[i]? = some f → DataW.trod enc P W 0 (fun _ => true) true fuel f.type ((cs.drop f.offset).take (P.cellsOf f.type)) = ys[i]?) → ∃ x, d.K W x (cs.drop off) ∧ B x
theorem opensFs_one {α : Type} {P : Program} {f : Field} {off : Nat} {d : Kd α} {B : α → Prop} (ho : f.offset = off) (hc : P.cellsOf f.type = d.sz) (hd : Opens P f.type d B) : OpensFs P [f] off d B := by
  constructor
  intro H enc W fuel cs ys hl hy h
  have h0 := h 0 f rfl
  rw [List.getElem?_eq_getElem (by rw [hy]; exact Nat.zero_lt_one), ho, hc, List.take_of_length_le (by rw [List.length_drop]; omega)] at h0
  exact hd.out enc W fuel _ _ h0
theorem opensFs_cons {α β : Type} {P : Program} {f : Field} {fs : List Field} {off : Nat} {a : Kd α} {b : Kd β} {Ba : α → Prop} {Bb : β → Prop} (ho : f.offset = off) (hc : P.cellsOf f.type = a.sz) (hd : Opens P f.type a Ba) (hs : OpensFs P fs (off + a.sz) b Bb) :
    OpensFs P (f :: fs) off (Kd.pair a b) (fun x => Ba x.1 ∧ Bb x.2) := by
  constructor
  intro H enc W fuel cs ys hl hy h
  have hl2 : cs.length = off + (a.sz + b.sz) := hl
  cases ys with
  | nil => simp at hy
  | cons y ys =>
    have h0 := h 0 f rfl
    rw [ho, hc] at h0
    obtain ⟨x, hx, hbx⟩ := hd.out enc W fuel _ _ h0
    obtain ⟨z, hz, hbz⟩ := hs.out enc W fuel cs ys (by omega) (by simpa using hy) (fun i g hg => h (i + 1) g hg)
    refine ⟨(x, z), ⟨(cs.drop off).take a.sz, cs.drop (off + a.sz), ?_, hx, hz⟩, hbx, hbz⟩
    rw [← List.drop_drop, List.take_append_drop]
theorem opens_struct {α β : Type} {P : Program} {t : TypeId} {fs : Array Field} {d : Kd α} {B : α → Prop} (f : β → α) (g : α → β) (hg : ∀ y, f (g y) = y) (ht : P.underlying t = some (.struct fs)) (hc : P.cellsOf t = d.sz) (hs : OpensFs P fs.toList 0 d B) :
    Opens P t (Kd.iso d f) (fun x => B (f x)) := by
  constructor
  intro H enc W fuel cs y h
  obtain ⟨xs, n, _, _, hl, hx, hi⟩ := DataW.trod_struct ht h
  obtain ⟨x, hk, hb⟩ := hs.out enc W n cs xs (by rw [hl, hc]; omega) (by rw [hx]; simp) (fun i f hf => hi i f (by simpa using hf))
  refine ⟨g x, ?_, by show B (f (g x)); rw [hg]; exact hb⟩
  show d.K W (f (g x)) cs
  rw [hg]
  simpa using hk
end Go.Proofs.Ytjhnpaenhdbhpaa.Q
