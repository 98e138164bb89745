/- Part of the proof of ReleaseThreshold: printed by programs of this repo out of the translation, and by hand. Each theorem's conditions stand in its statement. -/
import Derived.Laws.Entries
import Derived.Test.YtjhnpaenhdbhpaaMReleaseThresholda
import Derived.Test.YtjhnpaenhdbhpaaMReleaseThresholdb
import Derived.Test.YtjhnpaenhdbhpaaMReleaseThresholdc
import Derived.Test.YtjhnpaenhdbhpaaMReleaseThresholdd
import Derived.Test.YtjhnpaenhdbhpaaMReleaseThresholde
namespace Go.Proofs.Ytjhnpaenhdbhpaa.P
open Go.RowKit Go.Proofs.YtjhnpaenhdbhpaaW.PrintWords Go.Proofs.YtjhnpaenhdbhpaaW.PrintLast Go.Proofs.YtjhnpaenhdbhpaaW.PrintMore
attribute [local go_sem] max2_int min2_int max_two min_two max_three min_three max_four min_four
set_option linter.unusedVariables false
set_option linter.unusedSimpArgs false
def erasurelaw35_limit.f (a0 : Int) : Option (ByteArray × ByteArray × Int) := some ((⟨#[]⟩ : ByteArray), (⟨#[]⟩ : ByteArray), wrap64 (1 + (Go.bits .and .i64 a0 15)))
set_option maxHeartbeats 8000000 in
set_option maxRecDepth 100000 in
theorem erasurelaw35_limit.calls (a0 : Int) (r1 : ByteArray) (r2 : ByteArray) (r3 : Int) (w : World) (h : erasurelaw35_limit.f a0 = some (r1, r2, r3)) :
    Calls Try.prog 17 #[.int .i64 a0] w fun e w' => e = .returned (.agg #[.string r1, .string r2, .int .i64 r3]) ∧ Below w.heap.size w w' := by
  have hu23 := Try.underlying23
  have HB := Aside0.mk (Below.refl w.heap.size w)
  have H : (some ((⟨#[]⟩ : ByteArray), (⟨#[]⟩ : ByteArray), wrap64 (1 + (Go.bits .and .i64 a0 15)))) = some (r1, r2, r3) := h
  clear h
  simp only [Option.some.injEq, Prod.mk.injEq] at H
  obtain ⟨rfl, rfl, rfl⟩ := H
  go_enter Try.func17, Try.ntmps17
  go_wp2_with (first | ((with_reducible refine gate_dst (N := 2) rfl ?_); refine box_event ?hg (N := 2) ?hd (cs := #[.string (⟨#[]⟩ : ByteArray), .string (⟨#[]⟩ : ByteArray), .int .i64 0]) (t := 23) ?hr ?_; (case hd => rfl); (case hg => rfl); (case hr => first | (go_simp; done) | (go_simp; rfl)); intro gb302 hg w2 hbox hb; have n0_ := Aside0.mk (below_step (by repeat (first | (with_reducible first | exact HB.out | apply below_alloc | apply pw_below_drewN | apply below_drew1) | exact HB.out)) hb); have n1_ := Aside0.mk (hbox); have n2_ := Aside0.mk ((by rw [hg]; exact (below_size (by repeat (first | (with_reducible first | exact HB.out | apply below_alloc | apply pw_below_drewN | apply below_drew1) | exact HB.out))) : w.heap.size ≤ gb302)); have n3_ := Aside0.mk ((by rw [hg]; exact (below_size (by repeat (first | (with_reducible first | exact HB.out | apply below_alloc | apply pw_below_drewN | apply below_drew1) | exact HB.out))) : w.heap.size ≤ gb302)); clear HB; have HB := n0_; have BK302 := n1_; have GW302 := n2_; have GE302 := n3_; clear n0_ n1_ n2_ n3_; clear hb hbox hg; have hcz3_0 : w2.cell? ⟨gb302, 0, none⟩ = some (.string (⟨#[]⟩ : ByteArray)) := (blk_cell BK302.out 0).trans rfl; have hcz3_1 : w2.cell? ⟨gb302, 1, none⟩ = some (.string (⟨#[]⟩ : ByteArray)) := (blk_cell BK302.out 1).trans rfl; have hcz3_2 : w2.cell? ⟨gb302, 2, none⟩ = some (.int .i64 0) := (blk_cell BK302.out 2).trans rfl; have hfz3_0 := blk_frozen BK302.out 0; have hfz3_1 := blk_frozen BK302.out 1; have hfz3_2 := blk_frozen BK302.out 2))
  refine bodyPost_ret (results_cell_row rfl _ _ gb302 23 #[.string (⟨#[]⟩ : ByteArray), .string (⟨#[]⟩ : ByteArray), .int .i64 (wrap64 (1 + (Go.bits .and .i64 a0 15)))] (0, 0) _ rfl (by (with_reducible repeat (first | refine blk_drewN ?_ _ | refine blk_drew ?_ | refine blk_alloc ?_ _)); refine blk_put (cs := #[.string (⟨#[]⟩ : ByteArray), .string (⟨#[]⟩ : ByteArray), .int .i64 0]) ?_ 2 _ rfl; (with_reducible repeat (first | refine blk_drewN ?_ _ | refine blk_drew ?_ | refine blk_alloc ?_ _)); refine blk_put (cs := #[.string (⟨#[]⟩ : ByteArray), .string (⟨#[]⟩ : ByteArray), .int .i64 0]) ?_ 1 _ rfl; (with_reducible repeat (first | refine blk_drewN ?_ _ | refine blk_drew ?_ | refine blk_alloc ?_ _)); refine blk_put (cs := #[.string (⟨#[]⟩ : ByteArray), .string (⟨#[]⟩ : ByteArray), .int .i64 0]) ?_ 0 _ rfl; (with_reducible repeat (first | refine blk_drewN ?_ _ | refine blk_drew ?_ | refine blk_alloc ?_ _)); exact BK302.out) Try.underlying23 rfl (by kernel_rfl)) rfl ?_
  exact ⟨by first | rfl | (simp [errW_none, errW_some] <;> rfl) | (simp [*, errW_none, errW_some] <;> rfl), by repeat (first | (with_reducible first | exact HB.out | apply below_alloc | apply pw_below_drewN | apply below_drew1 | refine below_set ?_ GE302.out) | exact HB.out)⟩
end Go.Proofs.Ytjhnpaenhdbhpaa.P
namespace Go.Proofs.Ytjhnpaenhdbhpaa.P
open Go.RowKit Go.Proofs.YtjhnpaenhdbhpaaW.PrintWords Go.Proofs.YtjhnpaenhdbhpaaW.PrintLast Go.Proofs.YtjhnpaenhdbhpaaW.PrintMore
attribute [local go_sem] max2_int min2_int max_two min_two max_three min_three max_four min_four
set_option linter.unusedVariables false
set_option linter.unusedSimpArgs false
attribute [local go_sem high] eqA38
def erasurelaw35_ReleaseThreshold.l0 : Nat → List (S41) → List (S43) → Int → Int → ByteArray → ByteArray → Int → Option (Bool)
  | 0, _, _, _, _, _, _, _ => none
  | k + 1, x6, x7, x8, x9, x307000, x307001, x307002 => if x9 < (x6.length : Int) then (if 0 ≤ x9 then (if 1 < (((rd_T41 x6 x9).f0).length : Int) then (if ((rd_T38 ((rd_T41 x6 x9).f0) 1).f1) < x307002 then (erasurelaw35_ReleaseThreshold.l0 k x6 x7 x8 (wrap64 (x9 + 1)) x307000 x307001 x307002) else (if x8 ≥ (x7.length : Int) then (some false) else (if 0 ≤ x8 then (if x8 < (x7.length : Int) then (if (((rd_T43 x7 x8).f0).length : Int) = 1 then (if 0 < (((rd_T43 x7 x8).f0).length : Int) then (if 0 < (((rd_T41 x6 x9).f0).length : Int) then (if (!(((rd_T38 ((rd_T43 x7 x8).f0) 0).f0) == ((rd_T38 ((rd_T41 x6 x9).f0) 0).f0)) || (!(((rd_T38 ((rd_T43 x7 x8).f0) 0).f1) == ((rd_T38 ((rd_T41 x6 x9).f0) 0).f1)) || (!((((rd_T38 ((rd_T43 x7 x8).f0) 0).f2).toList) == (((rd_T38 ((rd_T41 x6 x9).f0) 0).f2).toList))))) = true then (some false) else (if ((rd_T43 x7 x8).f1) > ((rd_T38 ((rd_T41 x6 x9).f0) 1).f1) then (some false) else (if ((rd_T43 x7 x8).f1) ≤ (wrap64 (((rd_T38 ((rd_T41 x6 x9).f0) 1).f1) - x307002)) then (some false) else (if x307002 = 0 then (none) else (if (Int.tmod ((rd_T43 x7 x8).f1) x307002) = 0 then (erasurelaw35_ReleaseThreshold.l0 k x6 x7 (wrap64 (x8 + 1)) (wrap64 (x9 + 1)) x307000 x307001 x307002) else (some false)))))) else (none)) else (none)) else (some false)) else (none)) else (none)))) else (none)) else (none)) else (if x8 = (x7.length : Int) then ((erasurelaw35_awake.f k).bind fun t313 => (some t313)) else (some false))
def erasurelaw35_ReleaseThreshold.f (k : Nat) (a0 : Int) (l1 : List Int) : Option (Bool) := (erasurelaw35_limit.f a0).bind fun bt303 => ((erasurelaw35_Groups.f k l1).bind fun t307 => ((release_Publish.f k bt303.1 bt303.2.1 bt303.2.2 1 t307).bind fun t310 => (erasurelaw35_ReleaseThreshold.l0 k t307 t310 0 0 bt303.1 bt303.2.1 bt303.2.2)))
set_option maxHeartbeats 8000000 in
set_option maxRecDepth 100000 in
theorem erasurelaw35_ReleaseThreshold.calls (k : Nat) (a0 : Int) (A1 : Option Addr) (c1 : Nat) (l1 : List Int) (r : Bool) (w : World) (hr1 : Kd.C (Kd.int .i64) w A1 l1.length l1) (hc1 : l1.length ≤ c1) (h : erasurelaw35_ReleaseThreshold.f k a0 l1 = some r) :
    Calls Try.prog 4 #[.int .i64 a0, .slice A1 l1.length c1] w fun e w' => e = .returned (.bool r) ∧ Below w.heap.size w w' := by
  have hu23 := Try.underlying23
  have hu38 := Try.underlying38
  have HR1 := Aside0.mk hr1
  have HC1 := Aside0.mk hc1
  clear hr1 hc1
  have HB := Aside0.mk (Below.refl w.heap.size w)
  have H : ((erasurelaw35_limit.f a0).bind fun bt303 => ((erasurelaw35_Groups.f k l1).bind fun t307 => ((release_Publish.f k bt303.1 bt303.2.1 bt303.2.2 1 t307).bind fun t310 => (erasurelaw35_ReleaseThreshold.l0 k t307 t310 0 0 bt303.1 bt303.2.1 bt303.2.2)))) = some r := h
  clear h
  replace H := Option.bind_eq_some_iff.mp H
  obtain ⟨⟨t303, t304, t305⟩, A30, H⟩ := H
  replace H : ((erasurelaw35_Groups.f k l1).bind fun t307 => ((release_Publish.f k t303 t304 t305 1 t307).bind fun t310 => (erasurelaw35_ReleaseThreshold.l0 k t307 t310 0 0 t303 t304 t305))) = some r := H
  have A3 := Aside0.mk A30
  clear A30
  replace H := Option.bind_eq_some_iff.mp H
  obtain ⟨t307, A40, H⟩ := H
  replace H : ((release_Publish.f k t303 t304 t305 1 t307).bind fun t310 => (erasurelaw35_ReleaseThreshold.l0 k t307 t310 0 0 t303 t304 t305)) = some r := H
  have A4 := Aside0.mk A40
  clear A40
  replace H := Option.bind_eq_some_iff.mp H
  obtain ⟨t310, A50, H⟩ := H
  replace H : (erasurelaw35_ReleaseThreshold.l0 k t307 t310 0 0 t303 t304 t305) = some r := H
  have A5 := Aside0.mk A50
  clear A50
  have H' := Aside0.mk H
  clear H
  go_enter Try.func4, Try.ntmps4
  go_wp2_with (first | (go_at_call 17; (with_reducible refine (erasurelaw35_limit.calls a0 t303 t304 t305 _ A3.out).mono ?_); rintro e w6 ⟨rfl, hb⟩; have n0_ := Aside0.mk (below_step (by repeat (first | (with_reducible first | exact HB.out | apply below_alloc | apply pw_below_drewN | apply below_drew1) | exact HB.out)) hb); clear HB; have HB := n0_; clear n0_; (try clear hb); (try clear hb2); (try clear hk); (try clear hi)) | ((with_reducible refine gate_dst (N := 5) rfl ?_); (try (refine gate_guard (by rfl) ?_; dsimp only)); refine box_event ?hg (N := 5) ?hd (cs := #[.string (⟨#[]⟩ : ByteArray), .string (⟨#[]⟩ : ByteArray), .int .i64 0]) (t := 23) ?hr ?_; (case hd => rfl); (case hg => rfl); (case hr => first | (go_simp; done) | (go_simp; rfl)); intro gb306 hg w7 hbox hb; have n0_ := Aside0.mk (below_step (by repeat (first | (with_reducible first | exact HB.out | apply below_alloc | apply pw_below_drewN | apply below_drew1) | exact HB.out)) hb); have n1_ := Aside0.mk (hbox); have n2_ := Aside0.mk ((by rw [hg]; exact (below_size (by repeat (first | (with_reducible first | exact HB.out | apply below_alloc | apply pw_below_drewN | apply below_drew1) | exact HB.out))) : w.heap.size ≤ gb306)); have n3_ := Aside0.mk ((by rw [hg]; exact (below_size (by repeat (first | (with_reducible first | exact HB.out | apply below_alloc | apply pw_below_drewN | apply below_drew1) | exact HB.out))) : w.heap.size ≤ gb306)); clear HB; have HB := n0_; have BK306 := n1_; have GW306 := n2_; have GE306 := n3_; clear n0_ n1_ n2_ n3_; clear hb hbox hg; have hcz8_0 : w7.cell? ⟨gb306, 0, none⟩ = some (.string (⟨#[]⟩ : ByteArray)) := (blk_cell BK306.out 0).trans rfl; have hcz8_1 : w7.cell? ⟨gb306, 1, none⟩ = some (.string (⟨#[]⟩ : ByteArray)) := (blk_cell BK306.out 1).trans rfl; have hcz8_2 : w7.cell? ⟨gb306, 2, none⟩ = some (.int .i64 0) := (blk_cell BK306.out 2).trans rfl; have hfz8_0 := blk_frozen BK306.out 0; have hfz8_1 := blk_frozen BK306.out 1; have hfz8_2 := blk_frozen BK306.out 2) | (go_at_call 18; (with_reducible refine (erasurelaw35_Groups.calls k _ _ l1 t307 _ ?side1 ?side2 A4.out).mono ?_); (case side1 => exact Kd.C_below HR1.out (by repeat (first | (with_reducible first | exact HB.out | apply below_alloc | apply pw_below_drewN | apply below_drew1 | refine below_set ?_ GE306.out) | exact HB.out))); (case side2 => exact HC1.out); rintro e w9 ⟨v308, rfl, ho0, hb⟩; have n0_ := Aside0.mk (Kd.S_lower ho0 (below_size (by repeat (first | (with_reducible first | exact HB.out | apply below_alloc | apply pw_below_drewN | apply below_drew1 | refine below_set ?_ GE306.out) | exact HB.out)))); have n1_ := Aside0.mk (blk_below (g := gb306) (o := .cells #[.string t303, .string t304, .int .i64 t305] 23 (0, 0)) (by (with_reducible repeat (first | refine blk_drewN ?_ _ | refine blk_drew ?_ | refine blk_alloc ?_ _)); refine blk_put (cs := #[.string t303, .string t304, .int .i64 0]) ?_ 2 _ rfl; (with_reducible repeat (first | refine blk_drewN ?_ _ | refine blk_drew ?_ | refine blk_alloc ?_ _)); refine blk_put (cs := #[.string t303, .string (⟨#[]⟩ : ByteArray), .int .i64 0]) ?_ 1 _ rfl; (with_reducible repeat (first | refine blk_drewN ?_ _ | refine blk_drew ?_ | refine blk_alloc ?_ _)); refine blk_put (cs := #[.string (⟨#[]⟩ : ByteArray), .string (⟨#[]⟩ : ByteArray), .int .i64 0]) ?_ 0 _ rfl; (with_reducible repeat (first | refine blk_drewN ?_ _ | refine blk_drew ?_ | refine blk_alloc ?_ _)); exact BK306.out) hb); have n2_ := Aside0.mk (below_step (by repeat (first | (with_reducible first | exact HB.out | apply below_alloc | apply pw_below_drewN | apply below_drew1 | refine below_set ?_ GE306.out) | exact HB.out)) hb); clear BK306; clear HB; have HO309 := n0_; have BK306 := n1_; have HB := n2_; clear n0_ n1_ n2_; (try clear hb); (try clear hb2); (try clear hk); (try clear hi); (try clear ho0); have hcz10_0 : w9.cell? ⟨gb306, 0, none⟩ = some (.string t303) := (blk_cell BK306.out 0).trans rfl; have hcz10_1 : w9.cell? ⟨gb306, 1, none⟩ = some (.string t304) := (blk_cell BK306.out 1).trans rfl; have hcz10_2 : w9.cell? ⟨gb306, 2, none⟩ = some (.int .i64 t305) := (blk_cell BK306.out 2).trans rfl; have hfz10_0 := blk_frozen BK306.out 0; have hfz10_1 := blk_frozen BK306.out 1; have hfz10_2 := blk_frozen BK306.out 2; obtain ⟨Ao11, co11, eo11⟩ := Kd.S_slice HO309.out; subst eo11) | (go_at_call 15; (with_reducible refine (release_Publish.calls k t303 t304 t305 1 _ _ t307 t310 _ ?side1 ?side2 A5.out).mono ?_); (case side1 => repeat (first | exact (Kd.S_reads' HO309.out).2.2 | (with_reducible refine Kd.C_alloc ?_ _) | (with_reducible refine Kd.C_drewN ?_ _) | (with_reducible refine Kd.C_drew ?_))); (case side2 => exact (Kd.S_reads' HO309.out).2.1); rintro e w12 ⟨v311, rfl, ho0, hb⟩; have n0_ := Aside0.mk (Kd.S_below (by (with_reducible repeat (first | apply Kd.S_alloc | apply Kd.S_drewN | apply Kd.S_drew)); exact HO309.out) hb); have n1_ := Aside0.mk (Kd.V_lower (Kd.V_mono (ok' := fun k_ => some k_ ≠ (.slice Ao11 t307.length co11 : Value).ownBlock ∧ k_ ≠ gb306) ho0 (fun k_ hk_ => ⟨(Kd.fresh' (Kd.S_lt (by (with_reducible repeat (first | apply Kd.S_alloc | apply Kd.S_drewN | apply Kd.S_drew)); exact HO309.out)) k_ hk_), (Kd.freshB (g := gb306) (o := .cells #[.string t303, .string t304, .int .i64 t305] 23 (0, 0)) (by (with_reducible repeat (first | refine blk_drewN ?_ _ | refine blk_drew ?_ | refine blk_alloc ?_ _)); exact BK306.out) k_ hk_)⟩)) (below_size (by repeat (first | (with_reducible first | exact HB.out | apply below_alloc | apply pw_below_drewN | apply below_drew1 | refine below_set ?_ GE306.out) | exact HB.out)))); have n2_ := Aside0.mk (blk_below (g := gb306) (o := .cells #[.string t303, .string t304, .int .i64 t305] 23 (0, 0)) (by (with_reducible repeat (first | refine blk_drewN ?_ _ | refine blk_drew ?_ | refine blk_alloc ?_ _)); exact BK306.out) hb); have n3_ := Aside0.mk (below_step (by repeat (first | (with_reducible first | exact HB.out | apply below_alloc | apply pw_below_drewN | apply below_drew1 | refine below_set ?_ GE306.out) | exact HB.out)) hb); clear HO309; clear BK306; clear HB; have HO309 := n0_; have HO312 := n1_; have BK306 := n2_; have HB := n3_; clear n0_ n1_ n2_ n3_; (try clear hb); (try clear hb2); (try clear hk); (try clear hi); (try clear ho0)))
  repeat (go_quiet (first | (go_at_call 17; (with_reducible refine (erasurelaw35_limit.calls a0 t303 t304 t305 _ A3.out).mono ?_); rintro e w6 ⟨rfl, hb⟩; have n0_ := Aside0.mk (below_step (by repeat (first | (with_reducible first | exact HB.out | apply below_alloc | apply pw_below_drewN | apply below_drew1) | exact HB.out)) hb); clear HB; have HB := n0_; clear n0_; (try clear hb); (try clear hb2); (try clear hk); (try clear hi)) | ((with_reducible refine gate_dst (N := 5) rfl ?_); (try (refine gate_guard (by rfl) ?_; dsimp only)); refine box_event ?hg (N := 5) ?hd (cs := #[.string (⟨#[]⟩ : ByteArray), .string (⟨#[]⟩ : ByteArray), .int .i64 0]) (t := 23) ?hr ?_; (case hd => rfl); (case hg => rfl); (case hr => first | (go_simp; done) | (go_simp; rfl)); intro gb306 hg w7 hbox hb; have n0_ := Aside0.mk (below_step (by repeat (first | (with_reducible first | exact HB.out | apply below_alloc | apply pw_below_drewN | apply below_drew1) | exact HB.out)) hb); have n1_ := Aside0.mk (hbox); have n2_ := Aside0.mk ((by rw [hg]; exact (below_size (by repeat (first | (with_reducible first | exact HB.out | apply below_alloc | apply pw_below_drewN | apply below_drew1) | exact HB.out))) : w.heap.size ≤ gb306)); have n3_ := Aside0.mk ((by rw [hg]; exact (below_size (by repeat (first | (with_reducible first | exact HB.out | apply below_alloc | apply pw_below_drewN | apply below_drew1) | exact HB.out))) : w.heap.size ≤ gb306)); clear HB; have HB := n0_; have BK306 := n1_; have GW306 := n2_; have GE306 := n3_; clear n0_ n1_ n2_ n3_; clear hb hbox hg; have hcz8_0 : w7.cell? ⟨gb306, 0, none⟩ = some (.string (⟨#[]⟩ : ByteArray)) := (blk_cell BK306.out 0).trans rfl; have hcz8_1 : w7.cell? ⟨gb306, 1, none⟩ = some (.string (⟨#[]⟩ : ByteArray)) := (blk_cell BK306.out 1).trans rfl; have hcz8_2 : w7.cell? ⟨gb306, 2, none⟩ = some (.int .i64 0) := (blk_cell BK306.out 2).trans rfl; have hfz8_0 := blk_frozen BK306.out 0; have hfz8_1 := blk_frozen BK306.out 1; have hfz8_2 := blk_frozen BK306.out 2) | (go_at_call 18; (with_reducible refine (erasurelaw35_Groups.calls k _ _ l1 t307 _ ?side1 ?side2 A4.out).mono ?_); (case side1 => exact Kd.C_below HR1.out (by repeat (first | (with_reducible first | exact HB.out | apply below_alloc | apply pw_below_drewN | apply below_drew1 | refine below_set ?_ GE306.out) | exact HB.out))); (case side2 => exact HC1.out); rintro e w9 ⟨v308, rfl, ho0, hb⟩; have n0_ := Aside0.mk (Kd.S_lower ho0 (below_size (by repeat (first | (with_reducible first | exact HB.out | apply below_alloc | apply pw_below_drewN | apply below_drew1 | refine below_set ?_ GE306.out) | exact HB.out)))); have n1_ := Aside0.mk (blk_below (g := gb306) (o := .cells #[.string t303, .string t304, .int .i64 t305] 23 (0, 0)) (by (with_reducible repeat (first | refine blk_drewN ?_ _ | refine blk_drew ?_ | refine blk_alloc ?_ _)); refine blk_put (cs := #[.string t303, .string t304, .int .i64 0]) ?_ 2 _ rfl; (with_reducible repeat (first | refine blk_drewN ?_ _ | refine blk_drew ?_ | refine blk_alloc ?_ _)); refine blk_put (cs := #[.string t303, .string (⟨#[]⟩ : ByteArray), .int .i64 0]) ?_ 1 _ rfl; (with_reducible repeat (first | refine blk_drewN ?_ _ | refine blk_drew ?_ | refine blk_alloc ?_ _)); refine blk_put (cs := #[.string (⟨#[]⟩ : ByteArray), .string (⟨#[]⟩ : ByteArray), .int .i64 0]) ?_ 0 _ rfl; (with_reducible repeat (first | refine blk_drewN ?_ _ | refine blk_drew ?_ | refine blk_alloc ?_ _)); exact BK306.out) hb); have n2_ := Aside0.mk (below_step (by repeat (first | (with_reducible first | exact HB.out | apply below_alloc | apply pw_below_drewN | apply below_drew1 | refine below_set ?_ GE306.out) | exact HB.out)) hb); clear BK306; clear HB; have HO309 := n0_; have BK306 := n1_; have HB := n2_; clear n0_ n1_ n2_; (try clear hb); (try clear hb2); (try clear hk); (try clear hi); (try clear ho0); have hcz10_0 : w9.cell? ⟨gb306, 0, none⟩ = some (.string t303) := (blk_cell BK306.out 0).trans rfl; have hcz10_1 : w9.cell? ⟨gb306, 1, none⟩ = some (.string t304) := (blk_cell BK306.out 1).trans rfl; have hcz10_2 : w9.cell? ⟨gb306, 2, none⟩ = some (.int .i64 t305) := (blk_cell BK306.out 2).trans rfl; have hfz10_0 := blk_frozen BK306.out 0; have hfz10_1 := blk_frozen BK306.out 1; have hfz10_2 := blk_frozen BK306.out 2; obtain ⟨Ao11, co11, eo11⟩ := Kd.S_slice HO309.out; subst eo11) | (go_at_call 15; (with_reducible refine (release_Publish.calls k t303 t304 t305 1 _ _ t307 t310 _ ?side1 ?side2 A5.out).mono ?_); (case side1 => repeat (first | exact (Kd.S_reads' HO309.out).2.2 | (with_reducible refine Kd.C_alloc ?_ _) | (with_reducible refine Kd.C_drewN ?_ _) | (with_reducible refine Kd.C_drew ?_))); (case side2 => exact (Kd.S_reads' HO309.out).2.1); rintro e w12 ⟨v311, rfl, ho0, hb⟩; have n0_ := Aside0.mk (Kd.S_below (by (with_reducible repeat (first | apply Kd.S_alloc | apply Kd.S_drewN | apply Kd.S_drew)); exact HO309.out) hb); have n1_ := Aside0.mk (Kd.V_lower (Kd.V_mono (ok' := fun k_ => some k_ ≠ (.slice Ao11 t307.length co11 : Value).ownBlock ∧ k_ ≠ gb306) ho0 (fun k_ hk_ => ⟨(Kd.fresh' (Kd.S_lt (by (with_reducible repeat (first | apply Kd.S_alloc | apply Kd.S_drewN | apply Kd.S_drew)); exact HO309.out)) k_ hk_), (Kd.freshB (g := gb306) (o := .cells #[.string t303, .string t304, .int .i64 t305] 23 (0, 0)) (by (with_reducible repeat (first | refine blk_drewN ?_ _ | refine blk_drew ?_ | refine blk_alloc ?_ _)); exact BK306.out) k_ hk_)⟩)) (below_size (by repeat (first | (with_reducible first | exact HB.out | apply below_alloc | apply pw_below_drewN | apply below_drew1 | refine below_set ?_ GE306.out) | exact HB.out)))); have n2_ := Aside0.mk (blk_below (g := gb306) (o := .cells #[.string t303, .string t304, .int .i64 t305] 23 (0, 0)) (by (with_reducible repeat (first | refine blk_drewN ?_ _ | refine blk_drew ?_ | refine blk_alloc ?_ _)); exact BK306.out) hb); have n3_ := Aside0.mk (below_step (by repeat (first | (with_reducible first | exact HB.out | apply below_alloc | apply pw_below_drewN | apply below_drew1 | refine below_set ?_ GE306.out) | exact HB.out)) hb); clear HO309; clear BK306; clear HB; have HO309 := n0_; have HO312 := n1_; have BK306 := n2_; have HB := n3_; clear n0_ n1_ n2_ n3_; (try clear hb); (try clear hb2); (try clear hk); (try clear hi); (try clear ho0))); try go_wp2_with (first | (go_at_call 17; (with_reducible refine (erasurelaw35_limit.calls a0 t303 t304 t305 _ A3.out).mono ?_); rintro e w6 ⟨rfl, hb⟩; have n0_ := Aside0.mk (below_step (by repeat (first | (with_reducible first | exact HB.out | apply below_alloc | apply pw_below_drewN | apply below_drew1) | exact HB.out)) hb); clear HB; have HB := n0_; clear n0_; (try clear hb); (try clear hb2); (try clear hk); (try clear hi)) | ((with_reducible refine gate_dst (N := 5) rfl ?_); (try (refine gate_guard (by rfl) ?_; dsimp only)); refine box_event ?hg (N := 5) ?hd (cs := #[.string (⟨#[]⟩ : ByteArray), .string (⟨#[]⟩ : ByteArray), .int .i64 0]) (t := 23) ?hr ?_; (case hd => rfl); (case hg => rfl); (case hr => first | (go_simp; done) | (go_simp; rfl)); intro gb306 hg w7 hbox hb; have n0_ := Aside0.mk (below_step (by repeat (first | (with_reducible first | exact HB.out | apply below_alloc | apply pw_below_drewN | apply below_drew1) | exact HB.out)) hb); have n1_ := Aside0.mk (hbox); have n2_ := Aside0.mk ((by rw [hg]; exact (below_size (by repeat (first | (with_reducible first | exact HB.out | apply below_alloc | apply pw_below_drewN | apply below_drew1) | exact HB.out))) : w.heap.size ≤ gb306)); have n3_ := Aside0.mk ((by rw [hg]; exact (below_size (by repeat (first | (with_reducible first | exact HB.out | apply below_alloc | apply pw_below_drewN | apply below_drew1) | exact HB.out))) : w.heap.size ≤ gb306)); clear HB; have HB := n0_; have BK306 := n1_; have GW306 := n2_; have GE306 := n3_; clear n0_ n1_ n2_ n3_; clear hb hbox hg; have hcz8_0 : w7.cell? ⟨gb306, 0, none⟩ = some (.string (⟨#[]⟩ : ByteArray)) := (blk_cell BK306.out 0).trans rfl; have hcz8_1 : w7.cell? ⟨gb306, 1, none⟩ = some (.string (⟨#[]⟩ : ByteArray)) := (blk_cell BK306.out 1).trans rfl; have hcz8_2 : w7.cell? ⟨gb306, 2, none⟩ = some (.int .i64 0) := (blk_cell BK306.out 2).trans rfl; have hfz8_0 := blk_frozen BK306.out 0; have hfz8_1 := blk_frozen BK306.out 1; have hfz8_2 := blk_frozen BK306.out 2) | (go_at_call 18; (with_reducible refine (erasurelaw35_Groups.calls k _ _ l1 t307 _ ?side1 ?side2 A4.out).mono ?_); (case side1 => exact Kd.C_below HR1.out (by repeat (first | (with_reducible first | exact HB.out | apply below_alloc | apply pw_below_drewN | apply below_drew1 | refine below_set ?_ GE306.out) | exact HB.out))); (case side2 => exact HC1.out); rintro e w9 ⟨v308, rfl, ho0, hb⟩; have n0_ := Aside0.mk (Kd.S_lower ho0 (below_size (by repeat (first | (with_reducible first | exact HB.out | apply below_alloc | apply pw_below_drewN | apply below_drew1 | refine below_set ?_ GE306.out) | exact HB.out)))); have n1_ := Aside0.mk (blk_below (g := gb306) (o := .cells #[.string t303, .string t304, .int .i64 t305] 23 (0, 0)) (by (with_reducible repeat (first | refine blk_drewN ?_ _ | refine blk_drew ?_ | refine blk_alloc ?_ _)); refine blk_put (cs := #[.string t303, .string t304, .int .i64 0]) ?_ 2 _ rfl; (with_reducible repeat (first | refine blk_drewN ?_ _ | refine blk_drew ?_ | refine blk_alloc ?_ _)); refine blk_put (cs := #[.string t303, .string (⟨#[]⟩ : ByteArray), .int .i64 0]) ?_ 1 _ rfl; (with_reducible repeat (first | refine blk_drewN ?_ _ | refine blk_drew ?_ | refine blk_alloc ?_ _)); refine blk_put (cs := #[.string (⟨#[]⟩ : ByteArray), .string (⟨#[]⟩ : ByteArray), .int .i64 0]) ?_ 0 _ rfl; (with_reducible repeat (first | refine blk_drewN ?_ _ | refine blk_drew ?_ | refine blk_alloc ?_ _)); exact BK306.out) hb); have n2_ := Aside0.mk (below_step (by repeat (first | (with_reducible first | exact HB.out | apply below_alloc | apply pw_below_drewN | apply below_drew1 | refine below_set ?_ GE306.out) | exact HB.out)) hb); clear BK306; clear HB; have HO309 := n0_; have BK306 := n1_; have HB := n2_; clear n0_ n1_ n2_; (try clear hb); (try clear hb2); (try clear hk); (try clear hi); (try clear ho0); have hcz10_0 : w9.cell? ⟨gb306, 0, none⟩ = some (.string t303) := (blk_cell BK306.out 0).trans rfl; have hcz10_1 : w9.cell? ⟨gb306, 1, none⟩ = some (.string t304) := (blk_cell BK306.out 1).trans rfl; have hcz10_2 : w9.cell? ⟨gb306, 2, none⟩ = some (.int .i64 t305) := (blk_cell BK306.out 2).trans rfl; have hfz10_0 := blk_frozen BK306.out 0; have hfz10_1 := blk_frozen BK306.out 1; have hfz10_2 := blk_frozen BK306.out 2; obtain ⟨Ao11, co11, eo11⟩ := Kd.S_slice HO309.out; subst eo11) | (go_at_call 15; (with_reducible refine (release_Publish.calls k t303 t304 t305 1 _ _ t307 t310 _ ?side1 ?side2 A5.out).mono ?_); (case side1 => repeat (first | exact (Kd.S_reads' HO309.out).2.2 | (with_reducible refine Kd.C_alloc ?_ _) | (with_reducible refine Kd.C_drewN ?_ _) | (with_reducible refine Kd.C_drew ?_))); (case side2 => exact (Kd.S_reads' HO309.out).2.1); rintro e w12 ⟨v311, rfl, ho0, hb⟩; have n0_ := Aside0.mk (Kd.S_below (by (with_reducible repeat (first | apply Kd.S_alloc | apply Kd.S_drewN | apply Kd.S_drew)); exact HO309.out) hb); have n1_ := Aside0.mk (Kd.V_lower (Kd.V_mono (ok' := fun k_ => some k_ ≠ (.slice Ao11 t307.length co11 : Value).ownBlock ∧ k_ ≠ gb306) ho0 (fun k_ hk_ => ⟨(Kd.fresh' (Kd.S_lt (by (with_reducible repeat (first | apply Kd.S_alloc | apply Kd.S_drewN | apply Kd.S_drew)); exact HO309.out)) k_ hk_), (Kd.freshB (g := gb306) (o := .cells #[.string t303, .string t304, .int .i64 t305] 23 (0, 0)) (by (with_reducible repeat (first | refine blk_drewN ?_ _ | refine blk_drew ?_ | refine blk_alloc ?_ _)); exact BK306.out) k_ hk_)⟩)) (below_size (by repeat (first | (with_reducible first | exact HB.out | apply below_alloc | apply pw_below_drewN | apply below_drew1 | refine below_set ?_ GE306.out) | exact HB.out)))); have n2_ := Aside0.mk (blk_below (g := gb306) (o := .cells #[.string t303, .string t304, .int .i64 t305] 23 (0, 0)) (by (with_reducible repeat (first | refine blk_drewN ?_ _ | refine blk_drew ?_ | refine blk_alloc ?_ _)); exact BK306.out) hb); have n3_ := Aside0.mk (below_step (by repeat (first | (with_reducible first | exact HB.out | apply below_alloc | apply pw_below_drewN | apply below_drew1 | refine below_set ?_ GE306.out) | exact HB.out)) hb); clear HO309; clear BK306; clear HB; have HO309 := n0_; have HO312 := n1_; have BK306 := n2_; have HB := n3_; clear n0_ n1_ n2_ n3_; (try clear hb); (try clear hb2); (try clear hk); (try clear hi); (try clear ho0))))
  go_loopg [8, 9] k (fun kq v8 v9 w' => ∃ (x8_1 : Int) (x9_1 : Int), v8 = .int .i64 x8_1 ∧ v9 = .int .i64 x9_1 ∧ Aside0 (erasurelaw35_ReleaseThreshold.l0 kq t307 t310 x8_1 x9_1 t303 t304 t305 = some r) ∧ Aside0 (kq ≤ k) ∧ Aside0 (Kd.S k41 41 w' w.heap.size (fun _ => True) (.slice Ao11 t307.length co11) t307) ∧ Aside0 (Kd.V k43 43 w' w.heap.size (fun k_ => some k_ ≠ ((.slice Ao11 t307.length co11) : Value).ownBlock ∧ k_ ≠ gb306) v311 t310) ∧ Aside0 (w'.heap[gb306]? = some (.cells #[.string t303, .string t304, .int .i64 t305] 23 (0, 0))) ∧ Aside0 (Below w.heap.size w w'))
  case atStart => exact ⟨(0), (0), (by first | rfl | (simp; done) | (simp [*]; done)), (by first | rfl | (simp; done) | (simp [*]; done)), H', ⟨Nat.le_refl _⟩, ⟨by (with_reducible repeat (first | apply Kd.S_alloc | apply Kd.S_drewN | apply Kd.S_drew)); exact HO309.out⟩, ⟨by (with_reducible repeat (first | apply Kd.V_alloc | apply Kd.V_drewN | apply Kd.V_drew)); exact HO312.out⟩, ⟨by (with_reducible repeat (first | refine blk_drewN ?_ _ | refine blk_drew ?_ | refine blk_alloc ?_ _)); exact BK306.out⟩, ⟨by repeat (first | (with_reducible first | exact HB.out | apply below_alloc | apply pw_below_drewN | apply below_drew1 | refine below_set ?_ GE306.out) | exact HB.out)⟩⟩
  case round =>
    clear H'
    try clear c1
    try clear p2
    try clear c4
    try clear hcz10_0
    try clear hcz10_1
    try clear hcz10_2
    try clear hcz8_0
    try clear hcz8_1
    try clear hcz8_2
    try clear hfz10_0
    try clear hfz10_1
    try clear hfz10_2
    try clear hfz8_0
    try clear hfz8_1
    try clear hfz8_2
    obtain ⟨x8_1, x9_1, rfl, rfl, HA, HK1, HO_6, HO_7, BK306, HB⟩ := hrel
    cases gk with
    | zero => exact absurd HA.out (by simp [erasurelaw35_ReleaseThreshold.l0])
    | succ k1 =>
      have H := HA.out
      clear HA
      simp only [erasurelaw35_ReleaseThreshold.l0] at H
      by_cases c13 : x9_1 < (t307.length : Int)
      · rw [if_pos c13] at H
        have c13b0 : decide (x9_1 < (t307.length : Int)) = true := decide_eq_true c13
        clear c13
        by_cases c14 : 0 ≤ x9_1
        · rw [if_pos c14] at H
          have c14b0 : decide (0 ≤ x9_1) = true := decide_eq_true c14
          clear c14
          by_cases c15 : 1 < (((rd_T41 t307 x9_1).f0).length : Int)
          · rw [if_pos c15] at H
            have c15b0 : decide (1 < (((rd_T41 t307 x9_1).f0).length : Int)) = true := decide_eq_true c15
            have c15b1 : decide (1 < ((rd_T41 t307 x9_1).f0).length) = true := decide_eq_true (by omega)
            clear c15
            by_cases c16 : ((rd_T38 ((rd_T41 t307 x9_1).f0) 1).f1) < t305
            · rw [if_pos c16] at H
              have c16b0 : decide (((rd_T38 ((rd_T41 t307 x9_1).f0) 1).f1) < t305) = true := decide_eq_true c16
              clear c16
              have H' := Aside0.mk H
              clear H
              have p314 : 0 ≤ (x9_1 : Int) := of_decide_eq_true (by first | (with_reducible assumption) | assumption)
              have q314 : x9_1 < (t307.length : Int) := of_decide_eq_true (by first | (with_reducible assumption) | assumption)
              obtain ⟨ad314, A314_0, c314_0, e314, hx314_0, hx314_1, hl314_0, hi314_0⟩ := at_T41 (Kd.S_reads' HO_6.out).2.2 x9_1 p314 q314
              cases e314
              obtain ⟨ce314, hce314, hMe314, hcc314⟩ := Kd.S_get HO_6.out z41 x9_1 p314 (by first | exact q314 | exact of_decide_eq_true (by first | (with_reducible assumption) | assumption) | (have e_ := (Kd.S_reads' HO_6.out).1; omega))
              obtain ⟨ve314_0, rfl, ge314_0⟩ := k41_openM hMe314
              have hv314_0 := hcc314 0 _ rfl
              rw [Nat.add_zero] at hv314_0
              replace hv314_0 := Option.some.inj (hv314_0.symm.trans hx314_0)
              rw [hv314_0] at ge314_0
              have HL314_0 := Aside0.mk (show Kd.R k38 38 _ _ _ _ ((rd_T41 t307 x9_1).f0) from ge314_0)
              clear hv314_0 ge314_0
              clear hcc314 hce314
              have HR314_0 := Aside0.mk hi314_0
              have HC314_0 := Aside0.mk hl314_0
              clear hi314_0 hl314_0
              replace p314 := eq_true p314
              replace q314 := eq_true q314
              have p315 : 0 ≤ (1 : Int) := (by omega)
              have q315 : 1 < (((rd_T41 t307 x9_1).f0).length : Int) := of_decide_eq_true (by first | (with_reducible assumption) | assumption)
              obtain ⟨ad315, e315, hx315_0, hx315_1, hx315_2⟩ := at_T38 (by repeat (first | (with_reducible exact HR314_0.out) | (with_reducible refine Kd.C_alloc ?_ _) | (with_reducible refine Kd.C_drewN ?_ _) | (with_reducible refine Kd.C_drew ?_) | exact HR314_0.out)) 1 p315 q315
              cases e315
              (try simp only [show (1 : Int).toNat = 1 from rfl, Nat.reduceMul, Nat.reduceEqDiff, Go.Addr.add, ↓reduceIte] at hx315_0)
              (try simp only [show (1 : Int).toNat = 1 from rfl, Nat.reduceMul, Nat.reduceEqDiff, Go.Addr.add, ↓reduceIte] at hx315_1)
              (try simp only [show (1 : Int).toNat = 1 from rfl, Nat.reduceMul, Nat.reduceEqDiff, Go.Addr.add, ↓reduceIte] at hx315_2)
              have qi315 : (1 < ((rd_T41 t307 x9_1).f0).length) = True := eq_true (by omega)
              (try rw [show ((1 : Int)).toNat = 1 from rfl] at hx315_0)
              (try rw [show 1 * 3 = 3 from rfl] at hx315_0)
              (try rw [show ((1 : Int)).toNat = 1 from rfl] at hx315_1)
              (try rw [show 1 * 3 = 3 from rfl] at hx315_1)
              (try rw [show ((1 : Int)).toNat = 1 from rfl] at hx315_2)
              (try rw [show 1 * 3 = 3 from rfl] at hx315_2)
              replace p315 := eq_true p315
              replace q315 := eq_true q315
              have hcz17_0 : wr.cell? ⟨gb306, 0, none⟩ = some (.string t303) := (blk_cell BK306.out 0).trans rfl
              have hcz17_1 : wr.cell? ⟨gb306, 1, none⟩ = some (.string t304) := (blk_cell BK306.out 1).trans rfl
              have hcz17_2 : wr.cell? ⟨gb306, 2, none⟩ = some (.int .i64 t305) := (blk_cell BK306.out 2).trans rfl
              have hfz17_0 := blk_frozen BK306.out 0
              have hfz17_1 := blk_frozen BK306.out 1
              have hfz17_2 := blk_frozen BK306.out 2
              go_wp2
              repeat (go_quiet (fail); try go_wp2)
              go_roundg k1
              case measure => have := HK1.out; omega
              case rel => exact ⟨(x8_1), (wrap64 (x9_1 + 1)), (by first | rfl | (simp; done) | (simp [*]; done)), (by first | rfl | (simp; done) | (simp [*]; done)), H', ⟨by have := HK1.out; omega⟩, ⟨by (with_reducible repeat (first | apply Kd.S_alloc | apply Kd.S_drewN | apply Kd.S_drew)); exact HO_6.out⟩, ⟨by (with_reducible repeat (first | apply Kd.V_alloc | apply Kd.V_drewN | apply Kd.V_drew)); exact HO_7.out⟩, ⟨by (with_reducible repeat (first | refine blk_drewN ?_ _ | refine blk_drew ?_ | refine blk_alloc ?_ _)); exact BK306.out⟩, ⟨by repeat (first | (with_reducible first | exact HB.out | apply below_alloc | apply pw_below_drewN | apply below_drew1 | refine below_set ?_ GE306.out) | exact HB.out)⟩⟩
            · rw [if_neg c16] at H
              have c16b0 : decide (((rd_T38 ((rd_T41 t307 x9_1).f0) 1).f1) < t305) = false := decide_eq_false c16
              clear c16
              by_cases c18 : x8_1 ≥ (t310.length : Int)
              · rw [if_pos c18] at H
                have c18b0 : decide ((t310.length : Int) ≤ x8_1) = true := decide_eq_true c18
                clear c18
                obtain rfl := Option.some.inj H
                have p314 : 0 ≤ (x9_1 : Int) := of_decide_eq_true (by first | (with_reducible assumption) | assumption)
                have q314 : x9_1 < (t307.length : Int) := of_decide_eq_true (by first | (with_reducible assumption) | assumption)
                obtain ⟨ad314, A314_0, c314_0, e314, hx314_0, hx314_1, hl314_0, hi314_0⟩ := at_T41 (Kd.S_reads' HO_6.out).2.2 x9_1 p314 q314
                cases e314
                obtain ⟨ce314, hce314, hMe314, hcc314⟩ := Kd.S_get HO_6.out z41 x9_1 p314 (by first | exact q314 | exact of_decide_eq_true (by first | (with_reducible assumption) | assumption) | (have e_ := (Kd.S_reads' HO_6.out).1; omega))
                obtain ⟨ve314_0, rfl, ge314_0⟩ := k41_openM hMe314
                have hv314_0 := hcc314 0 _ rfl
                rw [Nat.add_zero] at hv314_0
                replace hv314_0 := Option.some.inj (hv314_0.symm.trans hx314_0)
                rw [hv314_0] at ge314_0
                have HL314_0 := Aside0.mk (show Kd.R k38 38 _ _ _ _ ((rd_T41 t307 x9_1).f0) from ge314_0)
                clear hv314_0 ge314_0
                clear hcc314 hce314
                have HR314_0 := Aside0.mk hi314_0
                have HC314_0 := Aside0.mk hl314_0
                clear hi314_0 hl314_0
                replace p314 := eq_true p314
                replace q314 := eq_true q314
                have p315 : 0 ≤ (1 : Int) := (by omega)
                have q315 : 1 < (((rd_T41 t307 x9_1).f0).length : Int) := of_decide_eq_true (by first | (with_reducible assumption) | assumption)
                obtain ⟨ad315, e315, hx315_0, hx315_1, hx315_2⟩ := at_T38 (by repeat (first | (with_reducible exact HR314_0.out) | (with_reducible refine Kd.C_alloc ?_ _) | (with_reducible refine Kd.C_drewN ?_ _) | (with_reducible refine Kd.C_drew ?_) | exact HR314_0.out)) 1 p315 q315
                cases e315
                (try simp only [show (1 : Int).toNat = 1 from rfl, Nat.reduceMul, Nat.reduceEqDiff, Go.Addr.add, ↓reduceIte] at hx315_0)
                (try simp only [show (1 : Int).toNat = 1 from rfl, Nat.reduceMul, Nat.reduceEqDiff, Go.Addr.add, ↓reduceIte] at hx315_1)
                (try simp only [show (1 : Int).toNat = 1 from rfl, Nat.reduceMul, Nat.reduceEqDiff, Go.Addr.add, ↓reduceIte] at hx315_2)
                have qi315 : (1 < ((rd_T41 t307 x9_1).f0).length) = True := eq_true (by omega)
                (try rw [show ((1 : Int)).toNat = 1 from rfl] at hx315_0)
                (try rw [show 1 * 3 = 3 from rfl] at hx315_0)
                (try rw [show ((1 : Int)).toNat = 1 from rfl] at hx315_1)
                (try rw [show 1 * 3 = 3 from rfl] at hx315_1)
                (try rw [show ((1 : Int)).toNat = 1 from rfl] at hx315_2)
                (try rw [show 1 * 3 = 3 from rfl] at hx315_2)
                replace p315 := eq_true p315
                replace q315 := eq_true q315
                have hcz19_0 : wr.cell? ⟨gb306, 0, none⟩ = some (.string t303) := (blk_cell BK306.out 0).trans rfl
                have hcz19_1 : wr.cell? ⟨gb306, 1, none⟩ = some (.string t304) := (blk_cell BK306.out 1).trans rfl
                have hcz19_2 : wr.cell? ⟨gb306, 2, none⟩ = some (.int .i64 t305) := (blk_cell BK306.out 2).trans rfl
                have hfz19_0 := blk_frozen BK306.out 0
                have hfz19_1 := blk_frozen BK306.out 1
                have hfz19_2 := blk_frozen BK306.out 2
                obtain ⟨Ao20, co20, eo20⟩ := Kd.V_slice HO_7.out
                subst eo20
                go_wp2
                repeat (go_quiet (fail); try go_wp2)
                go_ret
                exact ⟨by first | rfl | (simp [errW_none, errW_some] <;> rfl) | (simp [*, errW_none, errW_some] <;> rfl), by repeat (first | (with_reducible first | exact HB.out | apply below_alloc | apply pw_below_drewN | apply below_drew1 | refine below_set ?_ GE306.out) | exact HB.out)⟩
              · rw [if_neg c18] at H
                have c18b0 : decide ((t310.length : Int) ≤ x8_1) = false := decide_eq_false c18
                clear c18
                by_cases c21 : 0 ≤ x8_1
                · rw [if_pos c21] at H
                  have c21b0 : decide (0 ≤ x8_1) = true := decide_eq_true c21
                  clear c21
                  by_cases c22 : x8_1 < (t310.length : Int)
                  · rw [if_pos c22] at H
                    have c22b0 : decide (x8_1 < (t310.length : Int)) = true := decide_eq_true c22
                    clear c22
                    by_cases c23 : (((rd_T43 t310 x8_1).f0).length : Int) = 1
                    · rw [if_pos c23] at H
                      have c23b0 : ((((rd_T43 t310 x8_1).f0).length : Int) == 1) = true := beq_iff_eq.mpr c23
                      have c23b1 : ((((rd_T43 t310 x8_1).f0).length : Int) != 1) = false := bne_eq_false_iff_eq.mpr c23
                      clear c23
                      by_cases c24 : 0 < (((rd_T43 t310 x8_1).f0).length : Int)
                      · rw [if_pos c24] at H
                        have c24b0 : decide (0 < (((rd_T43 t310 x8_1).f0).length : Int)) = true := decide_eq_true c24
                        have c24b1 : decide (0 < ((rd_T43 t310 x8_1).f0).length) = true := decide_eq_true (by omega)
                        clear c24
                        by_cases c25 : 0 < (((rd_T41 t307 x9_1).f0).length : Int)
                        · rw [if_pos c25] at H
                          have c25b0 : decide (0 < (((rd_T41 t307 x9_1).f0).length : Int)) = true := decide_eq_true c25
                          have c25b1 : decide (0 < ((rd_T41 t307 x9_1).f0).length) = true := decide_eq_true (by omega)
                          clear c25
                          by_cases c26 : (!(((rd_T38 ((rd_T43 t310 x8_1).f0) 0).f0) == ((rd_T38 ((rd_T41 t307 x9_1).f0) 0).f0)) || (!(((rd_T38 ((rd_T43 t310 x8_1).f0) 0).f1) == ((rd_T38 ((rd_T41 t307 x9_1).f0) 0).f1)) || (!((((rd_T38 ((rd_T43 t310 x8_1).f0) 0).f2).toList) == (((rd_T38 ((rd_T41 t307 x9_1).f0) 0).f2).toList))))) = true
                          · rw [if_pos c26] at H
                            have c26b0 : (!(((rd_T38 ((rd_T43 t310 x8_1).f0) 0).f0) == ((rd_T38 ((rd_T41 t307 x9_1).f0) 0).f0)) || (!(((rd_T38 ((rd_T43 t310 x8_1).f0) 0).f1) == ((rd_T38 ((rd_T41 t307 x9_1).f0) 0).f1)) || (!((((rd_T38 ((rd_T43 t310 x8_1).f0) 0).f2).toList) == (((rd_T38 ((rd_T41 t307 x9_1).f0) 0).f2).toList))))) = true := c26
                            clear c26
                            obtain rfl := Option.some.inj H
                            have p314 : 0 ≤ (x9_1 : Int) := of_decide_eq_true (by first | (with_reducible assumption) | assumption)
                            have q314 : x9_1 < (t307.length : Int) := of_decide_eq_true (by first | (with_reducible assumption) | assumption)
                            obtain ⟨ad314, A314_0, c314_0, e314, hx314_0, hx314_1, hl314_0, hi314_0⟩ := at_T41 (Kd.S_reads' HO_6.out).2.2 x9_1 p314 q314
                            cases e314
                            obtain ⟨ce314, hce314, hMe314, hcc314⟩ := Kd.S_get HO_6.out z41 x9_1 p314 (by first | exact q314 | exact of_decide_eq_true (by first | (with_reducible assumption) | assumption) | (have e_ := (Kd.S_reads' HO_6.out).1; omega))
                            obtain ⟨ve314_0, rfl, ge314_0⟩ := k41_openM hMe314
                            have hv314_0 := hcc314 0 _ rfl
                            rw [Nat.add_zero] at hv314_0
                            replace hv314_0 := Option.some.inj (hv314_0.symm.trans hx314_0)
                            rw [hv314_0] at ge314_0
                            have HL314_0 := Aside0.mk (show Kd.R k38 38 _ _ _ _ ((rd_T41 t307 x9_1).f0) from ge314_0)
                            clear hv314_0 ge314_0
                            clear hcc314 hce314
                            have HR314_0 := Aside0.mk hi314_0
                            have HC314_0 := Aside0.mk hl314_0
                            clear hi314_0 hl314_0
                            replace p314 := eq_true p314
                            replace q314 := eq_true q314
                            have p315 : 0 ≤ (1 : Int) := (by omega)
                            have q315 : 1 < (((rd_T41 t307 x9_1).f0).length : Int) := of_decide_eq_true (by first | (with_reducible assumption) | assumption)
                            obtain ⟨ad315, e315, hx315_0, hx315_1, hx315_2⟩ := at_T38 (by repeat (first | (with_reducible exact HR314_0.out) | (with_reducible refine Kd.C_alloc ?_ _) | (with_reducible refine Kd.C_drewN ?_ _) | (with_reducible refine Kd.C_drew ?_) | exact HR314_0.out)) 1 p315 q315
                            cases e315
                            (try simp only [show (1 : Int).toNat = 1 from rfl, Nat.reduceMul, Nat.reduceEqDiff, Go.Addr.add, ↓reduceIte] at hx315_0)
                            (try simp only [show (1 : Int).toNat = 1 from rfl, Nat.reduceMul, Nat.reduceEqDiff, Go.Addr.add, ↓reduceIte] at hx315_1)
                            (try simp only [show (1 : Int).toNat = 1 from rfl, Nat.reduceMul, Nat.reduceEqDiff, Go.Addr.add, ↓reduceIte] at hx315_2)
                            have qi315 : (1 < ((rd_T41 t307 x9_1).f0).length) = True := eq_true (by omega)
                            (try rw [show ((1 : Int)).toNat = 1 from rfl] at hx315_0)
                            (try rw [show 1 * 3 = 3 from rfl] at hx315_0)
                            (try rw [show ((1 : Int)).toNat = 1 from rfl] at hx315_1)
                            (try rw [show 1 * 3 = 3 from rfl] at hx315_1)
                            (try rw [show ((1 : Int)).toNat = 1 from rfl] at hx315_2)
                            (try rw [show 1 * 3 = 3 from rfl] at hx315_2)
                            replace p315 := eq_true p315
                            replace q315 := eq_true q315
                            have hcz27_0 : wr.cell? ⟨gb306, 0, none⟩ = some (.string t303) := (blk_cell BK306.out 0).trans rfl
                            have hcz27_1 : wr.cell? ⟨gb306, 1, none⟩ = some (.string t304) := (blk_cell BK306.out 1).trans rfl
                            have hcz27_2 : wr.cell? ⟨gb306, 2, none⟩ = some (.int .i64 t305) := (blk_cell BK306.out 2).trans rfl
                            have hfz27_0 := blk_frozen BK306.out 0
                            have hfz27_1 := blk_frozen BK306.out 1
                            have hfz27_2 := blk_frozen BK306.out 2
                            obtain ⟨Ao28, co28, eo28⟩ := Kd.V_slice HO_7.out
                            subst eo28
                            have p316 : 0 ≤ (x8_1 : Int) := of_decide_eq_true (by first | (with_reducible assumption) | assumption)
                            have q316 : x8_1 < (t310.length : Int) := of_decide_eq_true (by first | (with_reducible assumption) | assumption)
                            obtain ⟨ad316, A316_0, c316_0, e316, hx316_0, hx316_1, hl316_0, hi316_0⟩ := at_T43 (Kd.V_reads' HO_7.out).2.2 x8_1 p316 q316
                            cases e316
                            obtain ⟨ce316, hce316, hMe316, hcc316⟩ := Kd.V_get HO_7.out z43 x8_1 p316 (by first | exact q316 | exact of_decide_eq_true (by first | (with_reducible assumption) | assumption) | (have e_ := (Kd.V_reads' HO_7.out).1; omega))
                            obtain ⟨ua316_0, uc316_0, rfl, ul316_0, ge316_0⟩ := k43_openF hMe316
                            have hv316_0 := hcc316 0 _ rfl
                            rw [Nat.add_zero] at hv316_0
                            replace hv316_0 := Option.some.inj (hv316_0.symm.trans hx316_0)
                            injection hv316_0 with hva_ hvn_ hvc_
                            rw [hva_] at ge316_0
                            rw [hvc_] at ul316_0
                            have HL316_0 := Aside0.mk (show Kd.V k38 38 _ w.heap.size _ _ ((rd_T43 t310 x8_1).f0) from Kd.V_mk ul316_0 ge316_0)
                            clear hva_ hvn_ hvc_ ge316_0 ul316_0
                            clear hcc316 hce316
                            have HR316_0 := Aside0.mk hi316_0
                            have HC316_0 := Aside0.mk hl316_0
                            clear hi316_0 hl316_0
                            replace p316 := eq_true p316
                            replace q316 := eq_true q316
                            have p317 : 0 ≤ (x8_1 : Int) := of_decide_eq_true (by first | (with_reducible assumption) | assumption)
                            have q317 : x8_1 < (t310.length : Int) := of_decide_eq_true (by first | (with_reducible assumption) | assumption)
                            obtain ⟨ad317, A317_0, c317_0, e317, hx317_0, hx317_1, hl317_0, hi317_0⟩ := at_T43 (Kd.V_reads' HO_7.out).2.2 x8_1 p317 q317
                            obtain rfl : ad316 = ad317 := (by injection e317)
                            obtain ⟨ce317, hce317, hMe317, hcc317⟩ := Kd.V_get HO_7.out z43 x8_1 p317 (by first | exact q317 | exact of_decide_eq_true (by first | (with_reducible assumption) | assumption) | (have e_ := (Kd.V_reads' HO_7.out).1; omega))
                            obtain ⟨ua317_0, uc317_0, rfl, ul317_0, ge317_0⟩ := k43_openF hMe317
                            have hv317_0 := hcc317 0 _ rfl
                            rw [Nat.add_zero] at hv317_0
                            replace hv317_0 := Option.some.inj (hv317_0.symm.trans hx317_0)
                            injection hv317_0 with hva_ hvn_ hvc_
                            rw [hva_] at ge317_0
                            rw [hvc_] at ul317_0
                            have HL317_0 := Aside0.mk (show Kd.V k38 38 _ w.heap.size _ _ ((rd_T43 t310 x8_1).f0) from Kd.V_mk ul317_0 ge317_0)
                            clear hva_ hvn_ hvc_ ge317_0 ul317_0
                            clear hcc317 hce317
                            have HR317_0 := Aside0.mk hi317_0
                            have HC317_0 := Aside0.mk hl317_0
                            clear hi317_0 hl317_0
                            replace p317 := eq_true p317
                            replace q317 := eq_true q317
                            have ea_ := Option.some.inj (hx316_0.symm.trans hx317_0)
                            injection ea_ with ea_ en_ ec_
                            subst ea_
                            subst ec_
                            clear en_
                            have p318 : 0 ≤ (0 : Int) := (by omega)
                            have q318 : 0 < (((rd_T43 t310 x8_1).f0).length : Int) := of_decide_eq_true (by first | (with_reducible assumption) | assumption)
                            obtain ⟨ad318, e318, hx318_0, hx318_1, hx318_2⟩ := at_T38 (by repeat (first | (with_reducible exact HR317_0.out) | (with_reducible refine Kd.C_alloc ?_ _) | (with_reducible refine Kd.C_drewN ?_ _) | (with_reducible refine Kd.C_drew ?_) | exact HR317_0.out)) 0 p318 q318
                            cases e318
                            have qi318 : (0 < ((rd_T43 t310 x8_1).f0).length) = True := eq_true (by omega)
                            (try rw [show ((0 : Int)).toNat = 0 from rfl] at hx318_0)
                            (try rw [show 0 * 3 = 0 from rfl] at hx318_0)
                            (try rw [Addr.add_zero'] at hx318_0)
                            (try rw [show ((0 : Int)).toNat = 0 from rfl] at hx318_1)
                            (try rw [show 0 * 3 = 0 from rfl] at hx318_1)
                            (try rw [Addr.add_zero'] at hx318_1)
                            (try rw [show ((0 : Int)).toNat = 0 from rfl] at hx318_2)
                            (try rw [show 0 * 3 = 0 from rfl] at hx318_2)
                            (try rw [Addr.add_zero'] at hx318_2)
                            replace p318 := eq_true p318
                            replace q318 := eq_true q318
                            have p319 : 0 ≤ (x9_1 : Int) := of_decide_eq_true (by first | (with_reducible assumption) | assumption)
                            have q319 : x9_1 < (t307.length : Int) := of_decide_eq_true (by first | (with_reducible assumption) | assumption)
                            obtain ⟨ad319, A319_0, c319_0, e319, hx319_0, hx319_1, hl319_0, hi319_0⟩ := at_T41 (Kd.S_reads' HO_6.out).2.2 x9_1 p319 q319
                            obtain rfl : ad314 = ad319 := (by injection e319)
                            obtain ⟨ce319, hce319, hMe319, hcc319⟩ := Kd.S_get HO_6.out z41 x9_1 p319 (by first | exact q319 | exact of_decide_eq_true (by first | (with_reducible assumption) | assumption) | (have e_ := (Kd.S_reads' HO_6.out).1; omega))
                            obtain ⟨ve319_0, rfl, ge319_0⟩ := k41_openM hMe319
                            have hv319_0 := hcc319 0 _ rfl
                            rw [Nat.add_zero] at hv319_0
                            replace hv319_0 := Option.some.inj (hv319_0.symm.trans hx319_0)
                            rw [hv319_0] at ge319_0
                            have HL319_0 := Aside0.mk (show Kd.R k38 38 _ _ _ _ ((rd_T41 t307 x9_1).f0) from ge319_0)
                            clear hv319_0 ge319_0
                            clear hcc319 hce319
                            have HR319_0 := Aside0.mk hi319_0
                            have HC319_0 := Aside0.mk hl319_0
                            clear hi319_0 hl319_0
                            replace p319 := eq_true p319
                            replace q319 := eq_true q319
                            have ea_ := Option.some.inj (hx314_0.symm.trans hx319_0)
                            injection ea_ with ea_ en_ ec_
                            subst ea_
                            subst ec_
                            clear en_
                            have p320 : 0 ≤ (0 : Int) := (by omega)
                            have q320 : 0 < (((rd_T41 t307 x9_1).f0).length : Int) := of_decide_eq_true (by first | (with_reducible assumption) | assumption)
                            obtain ⟨ad320, e320, hx320_0, hx320_1, hx320_2⟩ := at_T38 (by repeat (first | (with_reducible exact HR319_0.out) | (with_reducible refine Kd.C_alloc ?_ _) | (with_reducible refine Kd.C_drewN ?_ _) | (with_reducible refine Kd.C_drew ?_) | exact HR319_0.out)) 0 p320 q320
                            cases e320
                            have qi320 : (0 < ((rd_T41 t307 x9_1).f0).length) = True := eq_true (by omega)
                            (try rw [show ((0 : Int)).toNat = 0 from rfl] at hx320_0)
                            (try rw [show 0 * 3 = 0 from rfl] at hx320_0)
                            (try rw [Addr.add_zero'] at hx320_0)
                            (try rw [show ((0 : Int)).toNat = 0 from rfl] at hx320_1)
                            (try rw [show 0 * 3 = 0 from rfl] at hx320_1)
                            (try rw [Addr.add_zero'] at hx320_1)
                            (try rw [show ((0 : Int)).toNat = 0 from rfl] at hx320_2)
                            (try rw [show 0 * 3 = 0 from rfl] at hx320_2)
                            (try rw [Addr.add_zero'] at hx320_2)
                            replace p320 := eq_true p320
                            replace q320 := eq_true q320
                            go_wp2
                            repeat (go_quiet (fail); try go_wp2)
                            go_ret
                            exact ⟨by first | rfl | (simp [errW_none, errW_some] <;> rfl) | (simp [*, errW_none, errW_some] <;> rfl), by repeat (first | (with_reducible first | exact HB.out | apply below_alloc | apply pw_below_drewN | apply below_drew1 | refine below_set ?_ GE306.out) | exact HB.out)⟩
                          · rw [if_neg c26] at H
                            have c26b0 : (!(((rd_T38 ((rd_T43 t310 x8_1).f0) 0).f0) == ((rd_T38 ((rd_T41 t307 x9_1).f0) 0).f0)) || (!(((rd_T38 ((rd_T43 t310 x8_1).f0) 0).f1) == ((rd_T38 ((rd_T41 t307 x9_1).f0) 0).f1)) || (!((((rd_T38 ((rd_T43 t310 x8_1).f0) 0).f2).toList) == (((rd_T38 ((rd_T41 t307 x9_1).f0) 0).f2).toList))))) = false := by simpa using c26
                            clear c26
                            by_cases c29 : ((rd_T43 t310 x8_1).f1) > ((rd_T38 ((rd_T41 t307 x9_1).f0) 1).f1)
                            · rw [if_pos c29] at H
                              have c29b0 : decide (((rd_T38 ((rd_T41 t307 x9_1).f0) 1).f1) < ((rd_T43 t310 x8_1).f1)) = true := decide_eq_true c29
                              clear c29
                              obtain rfl := Option.some.inj H
                              have p314 : 0 ≤ (x9_1 : Int) := of_decide_eq_true (by first | (with_reducible assumption) | assumption)
                              have q314 : x9_1 < (t307.length : Int) := of_decide_eq_true (by first | (with_reducible assumption) | assumption)
                              obtain ⟨ad314, A314_0, c314_0, e314, hx314_0, hx314_1, hl314_0, hi314_0⟩ := at_T41 (Kd.S_reads' HO_6.out).2.2 x9_1 p314 q314
                              cases e314
                              obtain ⟨ce314, hce314, hMe314, hcc314⟩ := Kd.S_get HO_6.out z41 x9_1 p314 (by first | exact q314 | exact of_decide_eq_true (by first | (with_reducible assumption) | assumption) | (have e_ := (Kd.S_reads' HO_6.out).1; omega))
                              obtain ⟨ve314_0, rfl, ge314_0⟩ := k41_openM hMe314
                              have hv314_0 := hcc314 0 _ rfl
                              rw [Nat.add_zero] at hv314_0
                              replace hv314_0 := Option.some.inj (hv314_0.symm.trans hx314_0)
                              rw [hv314_0] at ge314_0
                              have HL314_0 := Aside0.mk (show Kd.R k38 38 _ _ _ _ ((rd_T41 t307 x9_1).f0) from ge314_0)
                              clear hv314_0 ge314_0
                              clear hcc314 hce314
                              have HR314_0 := Aside0.mk hi314_0
                              have HC314_0 := Aside0.mk hl314_0
                              clear hi314_0 hl314_0
                              replace p314 := eq_true p314
                              replace q314 := eq_true q314
                              have p315 : 0 ≤ (1 : Int) := (by omega)
                              have q315 : 1 < (((rd_T41 t307 x9_1).f0).length : Int) := of_decide_eq_true (by first | (with_reducible assumption) | assumption)
                              obtain ⟨ad315, e315, hx315_0, hx315_1, hx315_2⟩ := at_T38 (by repeat (first | (with_reducible exact HR314_0.out) | (with_reducible refine Kd.C_alloc ?_ _) | (with_reducible refine Kd.C_drewN ?_ _) | (with_reducible refine Kd.C_drew ?_) | exact HR314_0.out)) 1 p315 q315
                              cases e315
                              (try simp only [show (1 : Int).toNat = 1 from rfl, Nat.reduceMul, Nat.reduceEqDiff, Go.Addr.add, ↓reduceIte] at hx315_0)
                              (try simp only [show (1 : Int).toNat = 1 from rfl, Nat.reduceMul, Nat.reduceEqDiff, Go.Addr.add, ↓reduceIte] at hx315_1)
                              (try simp only [show (1 : Int).toNat = 1 from rfl, Nat.reduceMul, Nat.reduceEqDiff, Go.Addr.add, ↓reduceIte] at hx315_2)
                              have qi315 : (1 < ((rd_T41 t307 x9_1).f0).length) = True := eq_true (by omega)
                              (try rw [show ((1 : Int)).toNat = 1 from rfl] at hx315_0)
                              (try rw [show 1 * 3 = 3 from rfl] at hx315_0)
                              (try rw [show ((1 : Int)).toNat = 1 from rfl] at hx315_1)
                              (try rw [show 1 * 3 = 3 from rfl] at hx315_1)
                              (try rw [show ((1 : Int)).toNat = 1 from rfl] at hx315_2)
                              (try rw [show 1 * 3 = 3 from rfl] at hx315_2)
                              replace p315 := eq_true p315
                              replace q315 := eq_true q315
                              have hcz30_0 : wr.cell? ⟨gb306, 0, none⟩ = some (.string t303) := (blk_cell BK306.out 0).trans rfl
                              have hcz30_1 : wr.cell? ⟨gb306, 1, none⟩ = some (.string t304) := (blk_cell BK306.out 1).trans rfl
                              have hcz30_2 : wr.cell? ⟨gb306, 2, none⟩ = some (.int .i64 t305) := (blk_cell BK306.out 2).trans rfl
                              have hfz30_0 := blk_frozen BK306.out 0
                              have hfz30_1 := blk_frozen BK306.out 1
                              have hfz30_2 := blk_frozen BK306.out 2
                              obtain ⟨Ao31, co31, eo31⟩ := Kd.V_slice HO_7.out
                              subst eo31
                              have p316 : 0 ≤ (x8_1 : Int) := of_decide_eq_true (by first | (with_reducible assumption) | assumption)
                              have q316 : x8_1 < (t310.length : Int) := of_decide_eq_true (by first | (with_reducible assumption) | assumption)
                              obtain ⟨ad316, A316_0, c316_0, e316, hx316_0, hx316_1, hl316_0, hi316_0⟩ := at_T43 (Kd.V_reads' HO_7.out).2.2 x8_1 p316 q316
                              cases e316
                              obtain ⟨ce316, hce316, hMe316, hcc316⟩ := Kd.V_get HO_7.out z43 x8_1 p316 (by first | exact q316 | exact of_decide_eq_true (by first | (with_reducible assumption) | assumption) | (have e_ := (Kd.V_reads' HO_7.out).1; omega))
                              obtain ⟨ua316_0, uc316_0, rfl, ul316_0, ge316_0⟩ := k43_openF hMe316
                              have hv316_0 := hcc316 0 _ rfl
                              rw [Nat.add_zero] at hv316_0
                              replace hv316_0 := Option.some.inj (hv316_0.symm.trans hx316_0)
                              injection hv316_0 with hva_ hvn_ hvc_
                              rw [hva_] at ge316_0
                              rw [hvc_] at ul316_0
                              have HL316_0 := Aside0.mk (show Kd.V k38 38 _ w.heap.size _ _ ((rd_T43 t310 x8_1).f0) from Kd.V_mk ul316_0 ge316_0)
                              clear hva_ hvn_ hvc_ ge316_0 ul316_0
                              clear hcc316 hce316
                              have HR316_0 := Aside0.mk hi316_0
                              have HC316_0 := Aside0.mk hl316_0
                              clear hi316_0 hl316_0
                              replace p316 := eq_true p316
                              replace q316 := eq_true q316
                              have p317 : 0 ≤ (x8_1 : Int) := of_decide_eq_true (by first | (with_reducible assumption) | assumption)
                              have q317 : x8_1 < (t310.length : Int) := of_decide_eq_true (by first | (with_reducible assumption) | assumption)
                              obtain ⟨ad317, A317_0, c317_0, e317, hx317_0, hx317_1, hl317_0, hi317_0⟩ := at_T43 (Kd.V_reads' HO_7.out).2.2 x8_1 p317 q317
                              obtain rfl : ad316 = ad317 := (by injection e317)
                              obtain ⟨ce317, hce317, hMe317, hcc317⟩ := Kd.V_get HO_7.out z43 x8_1 p317 (by first | exact q317 | exact of_decide_eq_true (by first | (with_reducible assumption) | assumption) | (have e_ := (Kd.V_reads' HO_7.out).1; omega))
                              obtain ⟨ua317_0, uc317_0, rfl, ul317_0, ge317_0⟩ := k43_openF hMe317
                              have hv317_0 := hcc317 0 _ rfl
                              rw [Nat.add_zero] at hv317_0
                              replace hv317_0 := Option.some.inj (hv317_0.symm.trans hx317_0)
                              injection hv317_0 with hva_ hvn_ hvc_
                              rw [hva_] at ge317_0
                              rw [hvc_] at ul317_0
                              have HL317_0 := Aside0.mk (show Kd.V k38 38 _ w.heap.size _ _ ((rd_T43 t310 x8_1).f0) from Kd.V_mk ul317_0 ge317_0)
                              clear hva_ hvn_ hvc_ ge317_0 ul317_0
                              clear hcc317 hce317
                              have HR317_0 := Aside0.mk hi317_0
                              have HC317_0 := Aside0.mk hl317_0
                              clear hi317_0 hl317_0
                              replace p317 := eq_true p317
                              replace q317 := eq_true q317
                              have ea_ := Option.some.inj (hx316_0.symm.trans hx317_0)
                              injection ea_ with ea_ en_ ec_
                              subst ea_
                              subst ec_
                              clear en_
                              have p318 : 0 ≤ (0 : Int) := (by omega)
                              have q318 : 0 < (((rd_T43 t310 x8_1).f0).length : Int) := of_decide_eq_true (by first | (with_reducible assumption) | assumption)
                              obtain ⟨ad318, e318, hx318_0, hx318_1, hx318_2⟩ := at_T38 (by repeat (first | (with_reducible exact HR317_0.out) | (with_reducible refine Kd.C_alloc ?_ _) | (with_reducible refine Kd.C_drewN ?_ _) | (with_reducible refine Kd.C_drew ?_) | exact HR317_0.out)) 0 p318 q318
                              cases e318
                              have qi318 : (0 < ((rd_T43 t310 x8_1).f0).length) = True := eq_true (by omega)
                              (try rw [show ((0 : Int)).toNat = 0 from rfl] at hx318_0)
                              (try rw [show 0 * 3 = 0 from rfl] at hx318_0)
                              (try rw [Addr.add_zero'] at hx318_0)
                              (try rw [show ((0 : Int)).toNat = 0 from rfl] at hx318_1)
                              (try rw [show 0 * 3 = 0 from rfl] at hx318_1)
                              (try rw [Addr.add_zero'] at hx318_1)
                              (try rw [show ((0 : Int)).toNat = 0 from rfl] at hx318_2)
                              (try rw [show 0 * 3 = 0 from rfl] at hx318_2)
                              (try rw [Addr.add_zero'] at hx318_2)
                              replace p318 := eq_true p318
                              replace q318 := eq_true q318
                              have p319 : 0 ≤ (x9_1 : Int) := of_decide_eq_true (by first | (with_reducible assumption) | assumption)
                              have q319 : x9_1 < (t307.length : Int) := of_decide_eq_true (by first | (with_reducible assumption) | assumption)
                              obtain ⟨ad319, A319_0, c319_0, e319, hx319_0, hx319_1, hl319_0, hi319_0⟩ := at_T41 (Kd.S_reads' HO_6.out).2.2 x9_1 p319 q319
                              obtain rfl : ad314 = ad319 := (by injection e319)
                              obtain ⟨ce319, hce319, hMe319, hcc319⟩ := Kd.S_get HO_6.out z41 x9_1 p319 (by first | exact q319 | exact of_decide_eq_true (by first | (with_reducible assumption) | assumption) | (have e_ := (Kd.S_reads' HO_6.out).1; omega))
                              obtain ⟨ve319_0, rfl, ge319_0⟩ := k41_openM hMe319
                              have hv319_0 := hcc319 0 _ rfl
                              rw [Nat.add_zero] at hv319_0
                              replace hv319_0 := Option.some.inj (hv319_0.symm.trans hx319_0)
                              rw [hv319_0] at ge319_0
                              have HL319_0 := Aside0.mk (show Kd.R k38 38 _ _ _ _ ((rd_T41 t307 x9_1).f0) from ge319_0)
                              clear hv319_0 ge319_0
                              clear hcc319 hce319
                              have HR319_0 := Aside0.mk hi319_0
                              have HC319_0 := Aside0.mk hl319_0
                              clear hi319_0 hl319_0
                              replace p319 := eq_true p319
                              replace q319 := eq_true q319
                              have ea_ := Option.some.inj (hx314_0.symm.trans hx319_0)
                              injection ea_ with ea_ en_ ec_
                              subst ea_
                              subst ec_
                              clear en_
                              have p320 : 0 ≤ (0 : Int) := (by omega)
                              have q320 : 0 < (((rd_T41 t307 x9_1).f0).length : Int) := of_decide_eq_true (by first | (with_reducible assumption) | assumption)
                              obtain ⟨ad320, e320, hx320_0, hx320_1, hx320_2⟩ := at_T38 (by repeat (first | (with_reducible exact HR319_0.out) | (with_reducible refine Kd.C_alloc ?_ _) | (with_reducible refine Kd.C_drewN ?_ _) | (with_reducible refine Kd.C_drew ?_) | exact HR319_0.out)) 0 p320 q320
                              cases e320
                              have qi320 : (0 < ((rd_T41 t307 x9_1).f0).length) = True := eq_true (by omega)
                              (try rw [show ((0 : Int)).toNat = 0 from rfl] at hx320_0)
                              (try rw [show 0 * 3 = 0 from rfl] at hx320_0)
                              (try rw [Addr.add_zero'] at hx320_0)
                              (try rw [show ((0 : Int)).toNat = 0 from rfl] at hx320_1)
                              (try rw [show 0 * 3 = 0 from rfl] at hx320_1)
                              (try rw [Addr.add_zero'] at hx320_1)
                              (try rw [show ((0 : Int)).toNat = 0 from rfl] at hx320_2)
                              (try rw [show 0 * 3 = 0 from rfl] at hx320_2)
                              (try rw [Addr.add_zero'] at hx320_2)
                              replace p320 := eq_true p320
                              replace q320 := eq_true q320
                              have p321 : 0 ≤ (x8_1 : Int) := of_decide_eq_true (by first | (with_reducible assumption) | assumption)
                              have q321 : x8_1 < (t310.length : Int) := of_decide_eq_true (by first | (with_reducible assumption) | assumption)
                              obtain ⟨ad321, A321_0, c321_0, e321, hx321_0, hx321_1, hl321_0, hi321_0⟩ := at_T43 (Kd.V_reads' HO_7.out).2.2 x8_1 p321 q321
                              obtain rfl : ad316 = ad321 := (by injection e321)
                              obtain ⟨ce321, hce321, hMe321, hcc321⟩ := Kd.V_get HO_7.out z43 x8_1 p321 (by first | exact q321 | exact of_decide_eq_true (by first | (with_reducible assumption) | assumption) | (have e_ := (Kd.V_reads' HO_7.out).1; omega))
                              obtain ⟨ua321_0, uc321_0, rfl, ul321_0, ge321_0⟩ := k43_openF hMe321
                              have hv321_0 := hcc321 0 _ rfl
                              rw [Nat.add_zero] at hv321_0
                              replace hv321_0 := Option.some.inj (hv321_0.symm.trans hx321_0)
                              injection hv321_0 with hva_ hvn_ hvc_
                              rw [hva_] at ge321_0
                              rw [hvc_] at ul321_0
                              have HL321_0 := Aside0.mk (show Kd.V k38 38 _ w.heap.size _ _ ((rd_T43 t310 x8_1).f0) from Kd.V_mk ul321_0 ge321_0)
                              clear hva_ hvn_ hvc_ ge321_0 ul321_0
                              clear hcc321 hce321
                              have HR321_0 := Aside0.mk hi321_0
                              have HC321_0 := Aside0.mk hl321_0
                              clear hi321_0 hl321_0
                              replace p321 := eq_true p321
                              replace q321 := eq_true q321
                              have ea_ := Option.some.inj (hx316_0.symm.trans hx321_0)
                              injection ea_ with ea_ en_ ec_
                              subst ea_
                              subst ec_
                              clear en_
                              go_wp2
                              repeat (go_quiet (fail); try go_wp2)
                              go_ret
                              exact ⟨by first | rfl | (simp [errW_none, errW_some] <;> rfl) | (simp [*, errW_none, errW_some] <;> rfl), by repeat (first | (with_reducible first | exact HB.out | apply below_alloc | apply pw_below_drewN | apply below_drew1 | refine below_set ?_ GE306.out) | exact HB.out)⟩
                            · rw [if_neg c29] at H
                              have c29b0 : decide (((rd_T38 ((rd_T41 t307 x9_1).f0) 1).f1) < ((rd_T43 t310 x8_1).f1)) = false := decide_eq_false c29
                              clear c29
                              by_cases c32 : ((rd_T43 t310 x8_1).f1) ≤ (wrap64 (((rd_T38 ((rd_T41 t307 x9_1).f0) 1).f1) - t305))
                              · rw [if_pos c32] at H
                                have c32b0 : decide (((rd_T43 t310 x8_1).f1) ≤ (wrap64 (((rd_T38 ((rd_T41 t307 x9_1).f0) 1).f1) - t305))) = true := decide_eq_true c32
                                clear c32
                                obtain rfl := Option.some.inj H
                                have p314 : 0 ≤ (x9_1 : Int) := of_decide_eq_true (by first | (with_reducible assumption) | assumption)
                                have q314 : x9_1 < (t307.length : Int) := of_decide_eq_true (by first | (with_reducible assumption) | assumption)
                                obtain ⟨ad314, A314_0, c314_0, e314, hx314_0, hx314_1, hl314_0, hi314_0⟩ := at_T41 (Kd.S_reads' HO_6.out).2.2 x9_1 p314 q314
                                cases e314
                                obtain ⟨ce314, hce314, hMe314, hcc314⟩ := Kd.S_get HO_6.out z41 x9_1 p314 (by first | exact q314 | exact of_decide_eq_true (by first | (with_reducible assumption) | assumption) | (have e_ := (Kd.S_reads' HO_6.out).1; omega))
                                obtain ⟨ve314_0, rfl, ge314_0⟩ := k41_openM hMe314
                                have hv314_0 := hcc314 0 _ rfl
                                rw [Nat.add_zero] at hv314_0
                                replace hv314_0 := Option.some.inj (hv314_0.symm.trans hx314_0)
                                rw [hv314_0] at ge314_0
                                have HL314_0 := Aside0.mk (show Kd.R k38 38 _ _ _ _ ((rd_T41 t307 x9_1).f0) from ge314_0)
                                clear hv314_0 ge314_0
                                clear hcc314 hce314
                                have HR314_0 := Aside0.mk hi314_0
                                have HC314_0 := Aside0.mk hl314_0
                                clear hi314_0 hl314_0
                                replace p314 := eq_true p314
                                replace q314 := eq_true q314
                                have p315 : 0 ≤ (1 : Int) := (by omega)
                                have q315 : 1 < (((rd_T41 t307 x9_1).f0).length : Int) := of_decide_eq_true (by first | (with_reducible assumption) | assumption)
                                obtain ⟨ad315, e315, hx315_0, hx315_1, hx315_2⟩ := at_T38 (by repeat (first | (with_reducible exact HR314_0.out) | (with_reducible refine Kd.C_alloc ?_ _) | (with_reducible refine Kd.C_drewN ?_ _) | (with_reducible refine Kd.C_drew ?_) | exact HR314_0.out)) 1 p315 q315
                                cases e315
                                (try simp only [show (1 : Int).toNat = 1 from rfl, Nat.reduceMul, Nat.reduceEqDiff, Go.Addr.add, ↓reduceIte] at hx315_0)
                                (try simp only [show (1 : Int).toNat = 1 from rfl, Nat.reduceMul, Nat.reduceEqDiff, Go.Addr.add, ↓reduceIte] at hx315_1)
                                (try simp only [show (1 : Int).toNat = 1 from rfl, Nat.reduceMul, Nat.reduceEqDiff, Go.Addr.add, ↓reduceIte] at hx315_2)
                                have qi315 : (1 < ((rd_T41 t307 x9_1).f0).length) = True := eq_true (by omega)
                                (try rw [show ((1 : Int)).toNat = 1 from rfl] at hx315_0)
                                (try rw [show 1 * 3 = 3 from rfl] at hx315_0)
                                (try rw [show ((1 : Int)).toNat = 1 from rfl] at hx315_1)
                                (try rw [show 1 * 3 = 3 from rfl] at hx315_1)
                                (try rw [show ((1 : Int)).toNat = 1 from rfl] at hx315_2)
                                (try rw [show 1 * 3 = 3 from rfl] at hx315_2)
                                replace p315 := eq_true p315
                                replace q315 := eq_true q315
                                have hcz33_0 : wr.cell? ⟨gb306, 0, none⟩ = some (.string t303) := (blk_cell BK306.out 0).trans rfl
                                have hcz33_1 : wr.cell? ⟨gb306, 1, none⟩ = some (.string t304) := (blk_cell BK306.out 1).trans rfl
                                have hcz33_2 : wr.cell? ⟨gb306, 2, none⟩ = some (.int .i64 t305) := (blk_cell BK306.out 2).trans rfl
                                have hfz33_0 := blk_frozen BK306.out 0
                                have hfz33_1 := blk_frozen BK306.out 1
                                have hfz33_2 := blk_frozen BK306.out 2
                                obtain ⟨Ao34, co34, eo34⟩ := Kd.V_slice HO_7.out
                                subst eo34
                                have p316 : 0 ≤ (x8_1 : Int) := of_decide_eq_true (by first | (with_reducible assumption) | assumption)
                                have q316 : x8_1 < (t310.length : Int) := of_decide_eq_true (by first | (with_reducible assumption) | assumption)
                                obtain ⟨ad316, A316_0, c316_0, e316, hx316_0, hx316_1, hl316_0, hi316_0⟩ := at_T43 (Kd.V_reads' HO_7.out).2.2 x8_1 p316 q316
                                cases e316
                                obtain ⟨ce316, hce316, hMe316, hcc316⟩ := Kd.V_get HO_7.out z43 x8_1 p316 (by first | exact q316 | exact of_decide_eq_true (by first | (with_reducible assumption) | assumption) | (have e_ := (Kd.V_reads' HO_7.out).1; omega))
                                obtain ⟨ua316_0, uc316_0, rfl, ul316_0, ge316_0⟩ := k43_openF hMe316
                                have hv316_0 := hcc316 0 _ rfl
                                rw [Nat.add_zero] at hv316_0
                                replace hv316_0 := Option.some.inj (hv316_0.symm.trans hx316_0)
                                injection hv316_0 with hva_ hvn_ hvc_
                                rw [hva_] at ge316_0
                                rw [hvc_] at ul316_0
                                have HL316_0 := Aside0.mk (show Kd.V k38 38 _ w.heap.size _ _ ((rd_T43 t310 x8_1).f0) from Kd.V_mk ul316_0 ge316_0)
                                clear hva_ hvn_ hvc_ ge316_0 ul316_0
                                clear hcc316 hce316
                                have HR316_0 := Aside0.mk hi316_0
                                have HC316_0 := Aside0.mk hl316_0
                                clear hi316_0 hl316_0
                                replace p316 := eq_true p316
                                replace q316 := eq_true q316
                                have p317 : 0 ≤ (x8_1 : Int) := of_decide_eq_true (by first | (with_reducible assumption) | assumption)
                                have q317 : x8_1 < (t310.length : Int) := of_decide_eq_true (by first | (with_reducible assumption) | assumption)
                                obtain ⟨ad317, A317_0, c317_0, e317, hx317_0, hx317_1, hl317_0, hi317_0⟩ := at_T43 (Kd.V_reads' HO_7.out).2.2 x8_1 p317 q317
                                obtain rfl : ad316 = ad317 := (by injection e317)
                                obtain ⟨ce317, hce317, hMe317, hcc317⟩ := Kd.V_get HO_7.out z43 x8_1 p317 (by first | exact q317 | exact of_decide_eq_true (by first | (with_reducible assumption) | assumption) | (have e_ := (Kd.V_reads' HO_7.out).1; omega))
                                obtain ⟨ua317_0, uc317_0, rfl, ul317_0, ge317_0⟩ := k43_openF hMe317
                                have hv317_0 := hcc317 0 _ rfl
                                rw [Nat.add_zero] at hv317_0
                                replace hv317_0 := Option.some.inj (hv317_0.symm.trans hx317_0)
                                injection hv317_0 with hva_ hvn_ hvc_
                                rw [hva_] at ge317_0
                                rw [hvc_] at ul317_0
                                have HL317_0 := Aside0.mk (show Kd.V k38 38 _ w.heap.size _ _ ((rd_T43 t310 x8_1).f0) from Kd.V_mk ul317_0 ge317_0)
                                clear hva_ hvn_ hvc_ ge317_0 ul317_0
                                clear hcc317 hce317
                                have HR317_0 := Aside0.mk hi317_0
                                have HC317_0 := Aside0.mk hl317_0
                                clear hi317_0 hl317_0
                                replace p317 := eq_true p317
                                replace q317 := eq_true q317
                                have ea_ := Option.some.inj (hx316_0.symm.trans hx317_0)
                                injection ea_ with ea_ en_ ec_
                                subst ea_
                                subst ec_
                                clear en_
                                have p318 : 0 ≤ (0 : Int) := (by omega)
                                have q318 : 0 < (((rd_T43 t310 x8_1).f0).length : Int) := of_decide_eq_true (by first | (with_reducible assumption) | assumption)
                                obtain ⟨ad318, e318, hx318_0, hx318_1, hx318_2⟩ := at_T38 (by repeat (first | (with_reducible exact HR317_0.out) | (with_reducible refine Kd.C_alloc ?_ _) | (with_reducible refine Kd.C_drewN ?_ _) | (with_reducible refine Kd.C_drew ?_) | exact HR317_0.out)) 0 p318 q318
                                cases e318
                                have qi318 : (0 < ((rd_T43 t310 x8_1).f0).length) = True := eq_true (by omega)
                                (try rw [show ((0 : Int)).toNat = 0 from rfl] at hx318_0)
                                (try rw [show 0 * 3 = 0 from rfl] at hx318_0)
                                (try rw [Addr.add_zero'] at hx318_0)
                                (try rw [show ((0 : Int)).toNat = 0 from rfl] at hx318_1)
                                (try rw [show 0 * 3 = 0 from rfl] at hx318_1)
                                (try rw [Addr.add_zero'] at hx318_1)
                                (try rw [show ((0 : Int)).toNat = 0 from rfl] at hx318_2)
                                (try rw [show 0 * 3 = 0 from rfl] at hx318_2)
                                (try rw [Addr.add_zero'] at hx318_2)
                                replace p318 := eq_true p318
                                replace q318 := eq_true q318
                                have p319 : 0 ≤ (x9_1 : Int) := of_decide_eq_true (by first | (with_reducible assumption) | assumption)
                                have q319 : x9_1 < (t307.length : Int) := of_decide_eq_true (by first | (with_reducible assumption) | assumption)
                                obtain ⟨ad319, A319_0, c319_0, e319, hx319_0, hx319_1, hl319_0, hi319_0⟩ := at_T41 (Kd.S_reads' HO_6.out).2.2 x9_1 p319 q319
                                obtain rfl : ad314 = ad319 := (by injection e319)
                                obtain ⟨ce319, hce319, hMe319, hcc319⟩ := Kd.S_get HO_6.out z41 x9_1 p319 (by first | exact q319 | exact of_decide_eq_true (by first | (with_reducible assumption) | assumption) | (have e_ := (Kd.S_reads' HO_6.out).1; omega))
                                obtain ⟨ve319_0, rfl, ge319_0⟩ := k41_openM hMe319
                                have hv319_0 := hcc319 0 _ rfl
                                rw [Nat.add_zero] at hv319_0
                                replace hv319_0 := Option.some.inj (hv319_0.symm.trans hx319_0)
                                rw [hv319_0] at ge319_0
                                have HL319_0 := Aside0.mk (show Kd.R k38 38 _ _ _ _ ((rd_T41 t307 x9_1).f0) from ge319_0)
                                clear hv319_0 ge319_0
                                clear hcc319 hce319
                                have HR319_0 := Aside0.mk hi319_0
                                have HC319_0 := Aside0.mk hl319_0
                                clear hi319_0 hl319_0
                                replace p319 := eq_true p319
                                replace q319 := eq_true q319
                                have ea_ := Option.some.inj (hx314_0.symm.trans hx319_0)
                                injection ea_ with ea_ en_ ec_
                                subst ea_
                                subst ec_
                                clear en_
                                have p320 : 0 ≤ (0 : Int) := (by omega)
                                have q320 : 0 < (((rd_T41 t307 x9_1).f0).length : Int) := of_decide_eq_true (by first | (with_reducible assumption) | assumption)
                                obtain ⟨ad320, e320, hx320_0, hx320_1, hx320_2⟩ := at_T38 (by repeat (first | (with_reducible exact HR319_0.out) | (with_reducible refine Kd.C_alloc ?_ _) | (with_reducible refine Kd.C_drewN ?_ _) | (with_reducible refine Kd.C_drew ?_) | exact HR319_0.out)) 0 p320 q320
                                cases e320
                                have qi320 : (0 < ((rd_T41 t307 x9_1).f0).length) = True := eq_true (by omega)
                                (try rw [show ((0 : Int)).toNat = 0 from rfl] at hx320_0)
                                (try rw [show 0 * 3 = 0 from rfl] at hx320_0)
                                (try rw [Addr.add_zero'] at hx320_0)
                                (try rw [show ((0 : Int)).toNat = 0 from rfl] at hx320_1)
                                (try rw [show 0 * 3 = 0 from rfl] at hx320_1)
                                (try rw [Addr.add_zero'] at hx320_1)
                                (try rw [show ((0 : Int)).toNat = 0 from rfl] at hx320_2)
                                (try rw [show 0 * 3 = 0 from rfl] at hx320_2)
                                (try rw [Addr.add_zero'] at hx320_2)
                                replace p320 := eq_true p320
                                replace q320 := eq_true q320
                                have p321 : 0 ≤ (x8_1 : Int) := of_decide_eq_true (by first | (with_reducible assumption) | assumption)
                                have q321 : x8_1 < (t310.length : Int) := of_decide_eq_true (by first | (with_reducible assumption) | assumption)
                                obtain ⟨ad321, A321_0, c321_0, e321, hx321_0, hx321_1, hl321_0, hi321_0⟩ := at_T43 (Kd.V_reads' HO_7.out).2.2 x8_1 p321 q321
                                obtain rfl : ad316 = ad321 := (by injection e321)
                                obtain ⟨ce321, hce321, hMe321, hcc321⟩ := Kd.V_get HO_7.out z43 x8_1 p321 (by first | exact q321 | exact of_decide_eq_true (by first | (with_reducible assumption) | assumption) | (have e_ := (Kd.V_reads' HO_7.out).1; omega))
                                obtain ⟨ua321_0, uc321_0, rfl, ul321_0, ge321_0⟩ := k43_openF hMe321
                                have hv321_0 := hcc321 0 _ rfl
                                rw [Nat.add_zero] at hv321_0
                                replace hv321_0 := Option.some.inj (hv321_0.symm.trans hx321_0)
                                injection hv321_0 with hva_ hvn_ hvc_
                                rw [hva_] at ge321_0
                                rw [hvc_] at ul321_0
                                have HL321_0 := Aside0.mk (show Kd.V k38 38 _ w.heap.size _ _ ((rd_T43 t310 x8_1).f0) from Kd.V_mk ul321_0 ge321_0)
                                clear hva_ hvn_ hvc_ ge321_0 ul321_0
                                clear hcc321 hce321
                                have HR321_0 := Aside0.mk hi321_0
                                have HC321_0 := Aside0.mk hl321_0
                                clear hi321_0 hl321_0
                                replace p321 := eq_true p321
                                replace q321 := eq_true q321
                                have ea_ := Option.some.inj (hx316_0.symm.trans hx321_0)
                                injection ea_ with ea_ en_ ec_
                                subst ea_
                                subst ec_
                                clear en_
                                have p322 : 0 ≤ (x8_1 : Int) := of_decide_eq_true (by first | (with_reducible assumption) | assumption)
                                have q322 : x8_1 < (t310.length : Int) := of_decide_eq_true (by first | (with_reducible assumption) | assumption)
                                obtain ⟨ad322, A322_0, c322_0, e322, hx322_0, hx322_1, hl322_0, hi322_0⟩ := at_T43 (Kd.V_reads' HO_7.out).2.2 x8_1 p322 q322
                                obtain rfl : ad316 = ad322 := (by injection e322)
                                obtain ⟨ce322, hce322, hMe322, hcc322⟩ := Kd.V_get HO_7.out z43 x8_1 p322 (by first | exact q322 | exact of_decide_eq_true (by first | (with_reducible assumption) | assumption) | (have e_ := (Kd.V_reads' HO_7.out).1; omega))
                                obtain ⟨ua322_0, uc322_0, rfl, ul322_0, ge322_0⟩ := k43_openF hMe322
                                have hv322_0 := hcc322 0 _ rfl
                                rw [Nat.add_zero] at hv322_0
                                replace hv322_0 := Option.some.inj (hv322_0.symm.trans hx322_0)
                                injection hv322_0 with hva_ hvn_ hvc_
                                rw [hva_] at ge322_0
                                rw [hvc_] at ul322_0
                                have HL322_0 := Aside0.mk (show Kd.V k38 38 _ w.heap.size _ _ ((rd_T43 t310 x8_1).f0) from Kd.V_mk ul322_0 ge322_0)
                                clear hva_ hvn_ hvc_ ge322_0 ul322_0
                                clear hcc322 hce322
                                have HR322_0 := Aside0.mk hi322_0
                                have HC322_0 := Aside0.mk hl322_0
                                clear hi322_0 hl322_0
                                replace p322 := eq_true p322
                                replace q322 := eq_true q322
                                have ea_ := Option.some.inj (hx316_0.symm.trans hx322_0)
                                injection ea_ with ea_ en_ ec_
                                subst ea_
                                subst ec_
                                clear en_
                                go_wp2
                                repeat (go_quiet (fail); try go_wp2)
                                go_ret
                                exact ⟨by first | rfl | (simp [errW_none, errW_some] <;> rfl) | (simp [*, errW_none, errW_some] <;> rfl), by repeat (first | (with_reducible first | exact HB.out | apply below_alloc | apply pw_below_drewN | apply below_drew1 | refine below_set ?_ GE306.out) | exact HB.out)⟩
                              · rw [if_neg c32] at H
                                have c32b0 : decide (((rd_T43 t310 x8_1).f1) ≤ (wrap64 (((rd_T38 ((rd_T41 t307 x9_1).f0) 1).f1) - t305))) = false := decide_eq_false c32
                                clear c32
                                by_cases c35 : t305 = 0
                                · rw [if_pos c35] at H
                                  exact absurd H (by simp)
                                · rw [if_neg c35] at H
                                  have c35b0 : (t305 == 0) = false := beq_eq_false_iff_ne.mpr c35
                                  have c35b1 : (t305 != 0) = true := bne_iff_ne.mpr c35
                                  by_cases c36 : (Int.tmod ((rd_T43 t310 x8_1).f1) t305) = 0
                                  · rw [if_pos c36] at H
                                    have c36b0 : ((Int.tmod ((rd_T43 t310 x8_1).f1) t305) == 0) = true := beq_iff_eq.mpr c36
                                    have c36b1 : ((Int.tmod ((rd_T43 t310 x8_1).f1) t305) != 0) = false := bne_eq_false_iff_eq.mpr c36
                                    clear c36
                                    have H' := Aside0.mk H
                                    clear H
                                    have p314 : 0 ≤ (x9_1 : Int) := of_decide_eq_true (by first | (with_reducible assumption) | assumption)
                                    have q314 : x9_1 < (t307.length : Int) := of_decide_eq_true (by first | (with_reducible assumption) | assumption)
                                    obtain ⟨ad314, A314_0, c314_0, e314, hx314_0, hx314_1, hl314_0, hi314_0⟩ := at_T41 (Kd.S_reads' HO_6.out).2.2 x9_1 p314 q314
                                    cases e314
                                    obtain ⟨ce314, hce314, hMe314, hcc314⟩ := Kd.S_get HO_6.out z41 x9_1 p314 (by first | exact q314 | exact of_decide_eq_true (by first | (with_reducible assumption) | assumption) | (have e_ := (Kd.S_reads' HO_6.out).1; omega))
                                    obtain ⟨ve314_0, rfl, ge314_0⟩ := k41_openM hMe314
                                    have hv314_0 := hcc314 0 _ rfl
                                    rw [Nat.add_zero] at hv314_0
                                    replace hv314_0 := Option.some.inj (hv314_0.symm.trans hx314_0)
                                    rw [hv314_0] at ge314_0
                                    have HL314_0 := Aside0.mk (show Kd.R k38 38 _ _ _ _ ((rd_T41 t307 x9_1).f0) from ge314_0)
                                    clear hv314_0 ge314_0
                                    clear hcc314 hce314
                                    have HR314_0 := Aside0.mk hi314_0
                                    have HC314_0 := Aside0.mk hl314_0
                                    clear hi314_0 hl314_0
                                    replace p314 := eq_true p314
                                    replace q314 := eq_true q314
                                    have p315 : 0 ≤ (1 : Int) := (by omega)
                                    have q315 : 1 < (((rd_T41 t307 x9_1).f0).length : Int) := of_decide_eq_true (by first | (with_reducible assumption) | assumption)
                                    obtain ⟨ad315, e315, hx315_0, hx315_1, hx315_2⟩ := at_T38 (by repeat (first | (with_reducible exact HR314_0.out) | (with_reducible refine Kd.C_alloc ?_ _) | (with_reducible refine Kd.C_drewN ?_ _) | (with_reducible refine Kd.C_drew ?_) | exact HR314_0.out)) 1 p315 q315
                                    cases e315
                                    (try simp only [show (1 : Int).toNat = 1 from rfl, Nat.reduceMul, Nat.reduceEqDiff, Go.Addr.add, ↓reduceIte] at hx315_0)
                                    (try simp only [show (1 : Int).toNat = 1 from rfl, Nat.reduceMul, Nat.reduceEqDiff, Go.Addr.add, ↓reduceIte] at hx315_1)
                                    (try simp only [show (1 : Int).toNat = 1 from rfl, Nat.reduceMul, Nat.reduceEqDiff, Go.Addr.add, ↓reduceIte] at hx315_2)
                                    have qi315 : (1 < ((rd_T41 t307 x9_1).f0).length) = True := eq_true (by omega)
                                    (try rw [show ((1 : Int)).toNat = 1 from rfl] at hx315_0)
                                    (try rw [show 1 * 3 = 3 from rfl] at hx315_0)
                                    (try rw [show ((1 : Int)).toNat = 1 from rfl] at hx315_1)
                                    (try rw [show 1 * 3 = 3 from rfl] at hx315_1)
                                    (try rw [show ((1 : Int)).toNat = 1 from rfl] at hx315_2)
                                    (try rw [show 1 * 3 = 3 from rfl] at hx315_2)
                                    replace p315 := eq_true p315
                                    replace q315 := eq_true q315
                                    have hcz37_0 : wr.cell? ⟨gb306, 0, none⟩ = some (.string t303) := (blk_cell BK306.out 0).trans rfl
                                    have hcz37_1 : wr.cell? ⟨gb306, 1, none⟩ = some (.string t304) := (blk_cell BK306.out 1).trans rfl
                                    have hcz37_2 : wr.cell? ⟨gb306, 2, none⟩ = some (.int .i64 t305) := (blk_cell BK306.out 2).trans rfl
                                    have hfz37_0 := blk_frozen BK306.out 0
                                    have hfz37_1 := blk_frozen BK306.out 1
                                    have hfz37_2 := blk_frozen BK306.out 2
                                    obtain ⟨Ao38, co38, eo38⟩ := Kd.V_slice HO_7.out
                                    subst eo38
                                    have p316 : 0 ≤ (x8_1 : Int) := of_decide_eq_true (by first | (with_reducible assumption) | assumption)
                                    have q316 : x8_1 < (t310.length : Int) := of_decide_eq_true (by first | (with_reducible assumption) | assumption)
                                    obtain ⟨ad316, A316_0, c316_0, e316, hx316_0, hx316_1, hl316_0, hi316_0⟩ := at_T43 (Kd.V_reads' HO_7.out).2.2 x8_1 p316 q316
                                    cases e316
                                    obtain ⟨ce316, hce316, hMe316, hcc316⟩ := Kd.V_get HO_7.out z43 x8_1 p316 (by first | exact q316 | exact of_decide_eq_true (by first | (with_reducible assumption) | assumption) | (have e_ := (Kd.V_reads' HO_7.out).1; omega))
                                    obtain ⟨ua316_0, uc316_0, rfl, ul316_0, ge316_0⟩ := k43_openF hMe316
                                    have hv316_0 := hcc316 0 _ rfl
                                    rw [Nat.add_zero] at hv316_0
                                    replace hv316_0 := Option.some.inj (hv316_0.symm.trans hx316_0)
                                    injection hv316_0 with hva_ hvn_ hvc_
                                    rw [hva_] at ge316_0
                                    rw [hvc_] at ul316_0
                                    have HL316_0 := Aside0.mk (show Kd.V k38 38 _ w.heap.size _ _ ((rd_T43 t310 x8_1).f0) from Kd.V_mk ul316_0 ge316_0)
                                    clear hva_ hvn_ hvc_ ge316_0 ul316_0
                                    clear hcc316 hce316
                                    have HR316_0 := Aside0.mk hi316_0
                                    have HC316_0 := Aside0.mk hl316_0
                                    clear hi316_0 hl316_0
                                    replace p316 := eq_true p316
                                    replace q316 := eq_true q316
                                    have p317 : 0 ≤ (x8_1 : Int) := of_decide_eq_true (by first | (with_reducible assumption) | assumption)
                                    have q317 : x8_1 < (t310.length : Int) := of_decide_eq_true (by first | (with_reducible assumption) | assumption)
                                    obtain ⟨ad317, A317_0, c317_0, e317, hx317_0, hx317_1, hl317_0, hi317_0⟩ := at_T43 (Kd.V_reads' HO_7.out).2.2 x8_1 p317 q317
                                    obtain rfl : ad316 = ad317 := (by injection e317)
                                    obtain ⟨ce317, hce317, hMe317, hcc317⟩ := Kd.V_get HO_7.out z43 x8_1 p317 (by first | exact q317 | exact of_decide_eq_true (by first | (with_reducible assumption) | assumption) | (have e_ := (Kd.V_reads' HO_7.out).1; omega))
                                    obtain ⟨ua317_0, uc317_0, rfl, ul317_0, ge317_0⟩ := k43_openF hMe317
                                    have hv317_0 := hcc317 0 _ rfl
                                    rw [Nat.add_zero] at hv317_0
                                    replace hv317_0 := Option.some.inj (hv317_0.symm.trans hx317_0)
                                    injection hv317_0 with hva_ hvn_ hvc_
                                    rw [hva_] at ge317_0
                                    rw [hvc_] at ul317_0
                                    have HL317_0 := Aside0.mk (show Kd.V k38 38 _ w.heap.size _ _ ((rd_T43 t310 x8_1).f0) from Kd.V_mk ul317_0 ge317_0)
                                    clear hva_ hvn_ hvc_ ge317_0 ul317_0
                                    clear hcc317 hce317
                                    have HR317_0 := Aside0.mk hi317_0
                                    have HC317_0 := Aside0.mk hl317_0
                                    clear hi317_0 hl317_0
                                    replace p317 := eq_true p317
                                    replace q317 := eq_true q317
                                    have ea_ := Option.some.inj (hx316_0.symm.trans hx317_0)
                                    injection ea_ with ea_ en_ ec_
                                    subst ea_
                                    subst ec_
                                    clear en_
                                    have p318 : 0 ≤ (0 : Int) := (by omega)
                                    have q318 : 0 < (((rd_T43 t310 x8_1).f0).length : Int) := of_decide_eq_true (by first | (with_reducible assumption) | assumption)
                                    obtain ⟨ad318, e318, hx318_0, hx318_1, hx318_2⟩ := at_T38 (by repeat (first | (with_reducible exact HR317_0.out) | (with_reducible refine Kd.C_alloc ?_ _) | (with_reducible refine Kd.C_drewN ?_ _) | (with_reducible refine Kd.C_drew ?_) | exact HR317_0.out)) 0 p318 q318
                                    cases e318
                                    have qi318 : (0 < ((rd_T43 t310 x8_1).f0).length) = True := eq_true (by omega)
                                    (try rw [show ((0 : Int)).toNat = 0 from rfl] at hx318_0)
                                    (try rw [show 0 * 3 = 0 from rfl] at hx318_0)
                                    (try rw [Addr.add_zero'] at hx318_0)
                                    (try rw [show ((0 : Int)).toNat = 0 from rfl] at hx318_1)
                                    (try rw [show 0 * 3 = 0 from rfl] at hx318_1)
                                    (try rw [Addr.add_zero'] at hx318_1)
                                    (try rw [show ((0 : Int)).toNat = 0 from rfl] at hx318_2)
                                    (try rw [show 0 * 3 = 0 from rfl] at hx318_2)
                                    (try rw [Addr.add_zero'] at hx318_2)
                                    replace p318 := eq_true p318
                                    replace q318 := eq_true q318
                                    have p319 : 0 ≤ (x9_1 : Int) := of_decide_eq_true (by first | (with_reducible assumption) | assumption)
                                    have q319 : x9_1 < (t307.length : Int) := of_decide_eq_true (by first | (with_reducible assumption) | assumption)
                                    obtain ⟨ad319, A319_0, c319_0, e319, hx319_0, hx319_1, hl319_0, hi319_0⟩ := at_T41 (Kd.S_reads' HO_6.out).2.2 x9_1 p319 q319
                                    obtain rfl : ad314 = ad319 := (by injection e319)
                                    obtain ⟨ce319, hce319, hMe319, hcc319⟩ := Kd.S_get HO_6.out z41 x9_1 p319 (by first | exact q319 | exact of_decide_eq_true (by first | (with_reducible assumption) | assumption) | (have e_ := (Kd.S_reads' HO_6.out).1; omega))
                                    obtain ⟨ve319_0, rfl, ge319_0⟩ := k41_openM hMe319
                                    have hv319_0 := hcc319 0 _ rfl
                                    rw [Nat.add_zero] at hv319_0
                                    replace hv319_0 := Option.some.inj (hv319_0.symm.trans hx319_0)
                                    rw [hv319_0] at ge319_0
                                    have HL319_0 := Aside0.mk (show Kd.R k38 38 _ _ _ _ ((rd_T41 t307 x9_1).f0) from ge319_0)
                                    clear hv319_0 ge319_0
                                    clear hcc319 hce319
                                    have HR319_0 := Aside0.mk hi319_0
                                    have HC319_0 := Aside0.mk hl319_0
                                    clear hi319_0 hl319_0
                                    replace p319 := eq_true p319
                                    replace q319 := eq_true q319
                                    have ea_ := Option.some.inj (hx314_0.symm.trans hx319_0)
                                    injection ea_ with ea_ en_ ec_
                                    subst ea_
                                    subst ec_
                                    clear en_
                                    have p320 : 0 ≤ (0 : Int) := (by omega)
                                    have q320 : 0 < (((rd_T41 t307 x9_1).f0).length : Int) := of_decide_eq_true (by first | (with_reducible assumption) | assumption)
                                    obtain ⟨ad320, e320, hx320_0, hx320_1, hx320_2⟩ := at_T38 (by repeat (first | (with_reducible exact HR319_0.out) | (with_reducible refine Kd.C_alloc ?_ _) | (with_reducible refine Kd.C_drewN ?_ _) | (with_reducible refine Kd.C_drew ?_) | exact HR319_0.out)) 0 p320 q320
                                    cases e320
                                    have qi320 : (0 < ((rd_T41 t307 x9_1).f0).length) = True := eq_true (by omega)
                                    (try rw [show ((0 : Int)).toNat = 0 from rfl] at hx320_0)
                                    (try rw [show 0 * 3 = 0 from rfl] at hx320_0)
                                    (try rw [Addr.add_zero'] at hx320_0)
                                    (try rw [show ((0 : Int)).toNat = 0 from rfl] at hx320_1)
                                    (try rw [show 0 * 3 = 0 from rfl] at hx320_1)
                                    (try rw [Addr.add_zero'] at hx320_1)
                                    (try rw [show ((0 : Int)).toNat = 0 from rfl] at hx320_2)
                                    (try rw [show 0 * 3 = 0 from rfl] at hx320_2)
                                    (try rw [Addr.add_zero'] at hx320_2)
                                    replace p320 := eq_true p320
                                    replace q320 := eq_true q320
                                    have p321 : 0 ≤ (x8_1 : Int) := of_decide_eq_true (by first | (with_reducible assumption) | assumption)
                                    have q321 : x8_1 < (t310.length : Int) := of_decide_eq_true (by first | (with_reducible assumption) | assumption)
                                    obtain ⟨ad321, A321_0, c321_0, e321, hx321_0, hx321_1, hl321_0, hi321_0⟩ := at_T43 (Kd.V_reads' HO_7.out).2.2 x8_1 p321 q321
                                    obtain rfl : ad316 = ad321 := (by injection e321)
                                    obtain ⟨ce321, hce321, hMe321, hcc321⟩ := Kd.V_get HO_7.out z43 x8_1 p321 (by first | exact q321 | exact of_decide_eq_true (by first | (with_reducible assumption) | assumption) | (have e_ := (Kd.V_reads' HO_7.out).1; omega))
                                    obtain ⟨ua321_0, uc321_0, rfl, ul321_0, ge321_0⟩ := k43_openF hMe321
                                    have hv321_0 := hcc321 0 _ rfl
                                    rw [Nat.add_zero] at hv321_0
                                    replace hv321_0 := Option.some.inj (hv321_0.symm.trans hx321_0)
                                    injection hv321_0 with hva_ hvn_ hvc_
                                    rw [hva_] at ge321_0
                                    rw [hvc_] at ul321_0
                                    have HL321_0 := Aside0.mk (show Kd.V k38 38 _ w.heap.size _ _ ((rd_T43 t310 x8_1).f0) from Kd.V_mk ul321_0 ge321_0)
                                    clear hva_ hvn_ hvc_ ge321_0 ul321_0
                                    clear hcc321 hce321
                                    have HR321_0 := Aside0.mk hi321_0
                                    have HC321_0 := Aside0.mk hl321_0
                                    clear hi321_0 hl321_0
                                    replace p321 := eq_true p321
                                    replace q321 := eq_true q321
                                    have ea_ := Option.some.inj (hx316_0.symm.trans hx321_0)
                                    injection ea_ with ea_ en_ ec_
                                    subst ea_
                                    subst ec_
                                    clear en_
                                    have p322 : 0 ≤ (x8_1 : Int) := of_decide_eq_true (by first | (with_reducible assumption) | assumption)
                                    have q322 : x8_1 < (t310.length : Int) := of_decide_eq_true (by first | (with_reducible assumption) | assumption)
                                    obtain ⟨ad322, A322_0, c322_0, e322, hx322_0, hx322_1, hl322_0, hi322_0⟩ := at_T43 (Kd.V_reads' HO_7.out).2.2 x8_1 p322 q322
                                    obtain rfl : ad316 = ad322 := (by injection e322)
                                    obtain ⟨ce322, hce322, hMe322, hcc322⟩ := Kd.V_get HO_7.out z43 x8_1 p322 (by first | exact q322 | exact of_decide_eq_true (by first | (with_reducible assumption) | assumption) | (have e_ := (Kd.V_reads' HO_7.out).1; omega))
                                    obtain ⟨ua322_0, uc322_0, rfl, ul322_0, ge322_0⟩ := k43_openF hMe322
                                    have hv322_0 := hcc322 0 _ rfl
                                    rw [Nat.add_zero] at hv322_0
                                    replace hv322_0 := Option.some.inj (hv322_0.symm.trans hx322_0)
                                    injection hv322_0 with hva_ hvn_ hvc_
                                    rw [hva_] at ge322_0
                                    rw [hvc_] at ul322_0
                                    have HL322_0 := Aside0.mk (show Kd.V k38 38 _ w.heap.size _ _ ((rd_T43 t310 x8_1).f0) from Kd.V_mk ul322_0 ge322_0)
                                    clear hva_ hvn_ hvc_ ge322_0 ul322_0
                                    clear hcc322 hce322
                                    have HR322_0 := Aside0.mk hi322_0
                                    have HC322_0 := Aside0.mk hl322_0
                                    clear hi322_0 hl322_0
                                    replace p322 := eq_true p322
                                    replace q322 := eq_true q322
                                    have ea_ := Option.some.inj (hx316_0.symm.trans hx322_0)
                                    injection ea_ with ea_ en_ ec_
                                    subst ea_
                                    subst ec_
                                    clear en_
                                    have p323 : 0 ≤ (x8_1 : Int) := of_decide_eq_true (by first | (with_reducible assumption) | assumption)
                                    have q323 : x8_1 < (t310.length : Int) := of_decide_eq_true (by first | (with_reducible assumption) | assumption)
                                    obtain ⟨ad323, A323_0, c323_0, e323, hx323_0, hx323_1, hl323_0, hi323_0⟩ := at_T43 (Kd.V_reads' HO_7.out).2.2 x8_1 p323 q323
                                    obtain rfl : ad316 = ad323 := (by injection e323)
                                    obtain ⟨ce323, hce323, hMe323, hcc323⟩ := Kd.V_get HO_7.out z43 x8_1 p323 (by first | exact q323 | exact of_decide_eq_true (by first | (with_reducible assumption) | assumption) | (have e_ := (Kd.V_reads' HO_7.out).1; omega))
                                    obtain ⟨ua323_0, uc323_0, rfl, ul323_0, ge323_0⟩ := k43_openF hMe323
                                    have hv323_0 := hcc323 0 _ rfl
                                    rw [Nat.add_zero] at hv323_0
                                    replace hv323_0 := Option.some.inj (hv323_0.symm.trans hx323_0)
                                    injection hv323_0 with hva_ hvn_ hvc_
                                    rw [hva_] at ge323_0
                                    rw [hvc_] at ul323_0
                                    have HL323_0 := Aside0.mk (show Kd.V k38 38 _ w.heap.size _ _ ((rd_T43 t310 x8_1).f0) from Kd.V_mk ul323_0 ge323_0)
                                    clear hva_ hvn_ hvc_ ge323_0 ul323_0
                                    clear hcc323 hce323
                                    have HR323_0 := Aside0.mk hi323_0
                                    have HC323_0 := Aside0.mk hl323_0
                                    clear hi323_0 hl323_0
                                    replace p323 := eq_true p323
                                    replace q323 := eq_true q323
                                    have ea_ := Option.some.inj (hx316_0.symm.trans hx323_0)
                                    injection ea_ with ea_ en_ ec_
                                    subst ea_
                                    subst ec_
                                    clear en_
                                    go_wp2
                                    repeat (go_quiet (fail); try go_wp2)
                                    go_roundg k1
                                    case measure => have := HK1.out; omega
                                    case rel => exact ⟨(wrap64 (x8_1 + 1)), (wrap64 (x9_1 + 1)), (by first | rfl | (simp; done) | (simp [*]; done)), (by first | rfl | (simp; done) | (simp [*]; done)), H', ⟨by have := HK1.out; omega⟩, ⟨by (with_reducible repeat (first | apply Kd.S_alloc | apply Kd.S_drewN | apply Kd.S_drew)); exact HO_6.out⟩, ⟨by (with_reducible repeat (first | apply Kd.V_alloc | apply Kd.V_drewN | apply Kd.V_drew)); exact HO_7.out⟩, ⟨by (with_reducible repeat (first | refine blk_drewN ?_ _ | refine blk_drew ?_ | refine blk_alloc ?_ _)); exact BK306.out⟩, ⟨by repeat (first | (with_reducible first | exact HB.out | apply below_alloc | apply pw_below_drewN | apply below_drew1 | refine below_set ?_ GE306.out) | exact HB.out)⟩⟩
                                  · rw [if_neg c36] at H
                                    have c36b0 : ((Int.tmod ((rd_T43 t310 x8_1).f1) t305) == 0) = false := beq_eq_false_iff_ne.mpr c36
                                    have c36b1 : ((Int.tmod ((rd_T43 t310 x8_1).f1) t305) != 0) = true := bne_iff_ne.mpr c36
                                    obtain rfl := Option.some.inj H
                                    have p314 : 0 ≤ (x9_1 : Int) := of_decide_eq_true (by first | (with_reducible assumption) | assumption)
                                    have q314 : x9_1 < (t307.length : Int) := of_decide_eq_true (by first | (with_reducible assumption) | assumption)
                                    obtain ⟨ad314, A314_0, c314_0, e314, hx314_0, hx314_1, hl314_0, hi314_0⟩ := at_T41 (Kd.S_reads' HO_6.out).2.2 x9_1 p314 q314
                                    cases e314
                                    obtain ⟨ce314, hce314, hMe314, hcc314⟩ := Kd.S_get HO_6.out z41 x9_1 p314 (by first | exact q314 | exact of_decide_eq_true (by first | (with_reducible assumption) | assumption) | (have e_ := (Kd.S_reads' HO_6.out).1; omega))
                                    obtain ⟨ve314_0, rfl, ge314_0⟩ := k41_openM hMe314
                                    have hv314_0 := hcc314 0 _ rfl
                                    rw [Nat.add_zero] at hv314_0
                                    replace hv314_0 := Option.some.inj (hv314_0.symm.trans hx314_0)
                                    rw [hv314_0] at ge314_0
                                    have HL314_0 := Aside0.mk (show Kd.R k38 38 _ _ _ _ ((rd_T41 t307 x9_1).f0) from ge314_0)
                                    clear hv314_0 ge314_0
                                    clear hcc314 hce314
                                    have HR314_0 := Aside0.mk hi314_0
                                    have HC314_0 := Aside0.mk hl314_0
                                    clear hi314_0 hl314_0
                                    replace p314 := eq_true p314
                                    replace q314 := eq_true q314
                                    have p315 : 0 ≤ (1 : Int) := (by omega)
                                    have q315 : 1 < (((rd_T41 t307 x9_1).f0).length : Int) := of_decide_eq_true (by first | (with_reducible assumption) | assumption)
                                    obtain ⟨ad315, e315, hx315_0, hx315_1, hx315_2⟩ := at_T38 (by repeat (first | (with_reducible exact HR314_0.out) | (with_reducible refine Kd.C_alloc ?_ _) | (with_reducible refine Kd.C_drewN ?_ _) | (with_reducible refine Kd.C_drew ?_) | exact HR314_0.out)) 1 p315 q315
                                    cases e315
                                    (try simp only [show (1 : Int).toNat = 1 from rfl, Nat.reduceMul, Nat.reduceEqDiff, Go.Addr.add, ↓reduceIte] at hx315_0)
                                    (try simp only [show (1 : Int).toNat = 1 from rfl, Nat.reduceMul, Nat.reduceEqDiff, Go.Addr.add, ↓reduceIte] at hx315_1)
                                    (try simp only [show (1 : Int).toNat = 1 from rfl, Nat.reduceMul, Nat.reduceEqDiff, Go.Addr.add, ↓reduceIte] at hx315_2)
                                    have qi315 : (1 < ((rd_T41 t307 x9_1).f0).length) = True := eq_true (by omega)
                                    (try rw [show ((1 : Int)).toNat = 1 from rfl] at hx315_0)
                                    (try rw [show 1 * 3 = 3 from rfl] at hx315_0)
                                    (try rw [show ((1 : Int)).toNat = 1 from rfl] at hx315_1)
                                    (try rw [show 1 * 3 = 3 from rfl] at hx315_1)
                                    (try rw [show ((1 : Int)).toNat = 1 from rfl] at hx315_2)
                                    (try rw [show 1 * 3 = 3 from rfl] at hx315_2)
                                    replace p315 := eq_true p315
                                    replace q315 := eq_true q315
                                    have hcz39_0 : wr.cell? ⟨gb306, 0, none⟩ = some (.string t303) := (blk_cell BK306.out 0).trans rfl
                                    have hcz39_1 : wr.cell? ⟨gb306, 1, none⟩ = some (.string t304) := (blk_cell BK306.out 1).trans rfl
                                    have hcz39_2 : wr.cell? ⟨gb306, 2, none⟩ = some (.int .i64 t305) := (blk_cell BK306.out 2).trans rfl
                                    have hfz39_0 := blk_frozen BK306.out 0
                                    have hfz39_1 := blk_frozen BK306.out 1
                                    have hfz39_2 := blk_frozen BK306.out 2
                                    obtain ⟨Ao40, co40, eo40⟩ := Kd.V_slice HO_7.out
                                    subst eo40
                                    have p316 : 0 ≤ (x8_1 : Int) := of_decide_eq_true (by first | (with_reducible assumption) | assumption)
                                    have q316 : x8_1 < (t310.length : Int) := of_decide_eq_true (by first | (with_reducible assumption) | assumption)
                                    obtain ⟨ad316, A316_0, c316_0, e316, hx316_0, hx316_1, hl316_0, hi316_0⟩ := at_T43 (Kd.V_reads' HO_7.out).2.2 x8_1 p316 q316
                                    cases e316
                                    obtain ⟨ce316, hce316, hMe316, hcc316⟩ := Kd.V_get HO_7.out z43 x8_1 p316 (by first | exact q316 | exact of_decide_eq_true (by first | (with_reducible assumption) | assumption) | (have e_ := (Kd.V_reads' HO_7.out).1; omega))
                                    obtain ⟨ua316_0, uc316_0, rfl, ul316_0, ge316_0⟩ := k43_openF hMe316
                                    have hv316_0 := hcc316 0 _ rfl
                                    rw [Nat.add_zero] at hv316_0
                                    replace hv316_0 := Option.some.inj (hv316_0.symm.trans hx316_0)
                                    injection hv316_0 with hva_ hvn_ hvc_
                                    rw [hva_] at ge316_0
                                    rw [hvc_] at ul316_0
                                    have HL316_0 := Aside0.mk (show Kd.V k38 38 _ w.heap.size _ _ ((rd_T43 t310 x8_1).f0) from Kd.V_mk ul316_0 ge316_0)
                                    clear hva_ hvn_ hvc_ ge316_0 ul316_0
                                    clear hcc316 hce316
                                    have HR316_0 := Aside0.mk hi316_0
                                    have HC316_0 := Aside0.mk hl316_0
                                    clear hi316_0 hl316_0
                                    replace p316 := eq_true p316
                                    replace q316 := eq_true q316
                                    have p317 : 0 ≤ (x8_1 : Int) := of_decide_eq_true (by first | (with_reducible assumption) | assumption)
                                    have q317 : x8_1 < (t310.length : Int) := of_decide_eq_true (by first | (with_reducible assumption) | assumption)
                                    obtain ⟨ad317, A317_0, c317_0, e317, hx317_0, hx317_1, hl317_0, hi317_0⟩ := at_T43 (Kd.V_reads' HO_7.out).2.2 x8_1 p317 q317
                                    obtain rfl : ad316 = ad317 := (by injection e317)
                                    obtain ⟨ce317, hce317, hMe317, hcc317⟩ := Kd.V_get HO_7.out z43 x8_1 p317 (by first | exact q317 | exact of_decide_eq_true (by first | (with_reducible assumption) | assumption) | (have e_ := (Kd.V_reads' HO_7.out).1; omega))
                                    obtain ⟨ua317_0, uc317_0, rfl, ul317_0, ge317_0⟩ := k43_openF hMe317
                                    have hv317_0 := hcc317 0 _ rfl
                                    rw [Nat.add_zero] at hv317_0
                                    replace hv317_0 := Option.some.inj (hv317_0.symm.trans hx317_0)
                                    injection hv317_0 with hva_ hvn_ hvc_
                                    rw [hva_] at ge317_0
                                    rw [hvc_] at ul317_0
                                    have HL317_0 := Aside0.mk (show Kd.V k38 38 _ w.heap.size _ _ ((rd_T43 t310 x8_1).f0) from Kd.V_mk ul317_0 ge317_0)
                                    clear hva_ hvn_ hvc_ ge317_0 ul317_0
                                    clear hcc317 hce317
                                    have HR317_0 := Aside0.mk hi317_0
                                    have HC317_0 := Aside0.mk hl317_0
                                    clear hi317_0 hl317_0
                                    replace p317 := eq_true p317
                                    replace q317 := eq_true q317
                                    have ea_ := Option.some.inj (hx316_0.symm.trans hx317_0)
                                    injection ea_ with ea_ en_ ec_
                                    subst ea_
                                    subst ec_
                                    clear en_
                                    have p318 : 0 ≤ (0 : Int) := (by omega)
                                    have q318 : 0 < (((rd_T43 t310 x8_1).f0).length : Int) := of_decide_eq_true (by first | (with_reducible assumption) | assumption)
                                    obtain ⟨ad318, e318, hx318_0, hx318_1, hx318_2⟩ := at_T38 (by repeat (first | (with_reducible exact HR317_0.out) | (with_reducible refine Kd.C_alloc ?_ _) | (with_reducible refine Kd.C_drewN ?_ _) | (with_reducible refine Kd.C_drew ?_) | exact HR317_0.out)) 0 p318 q318
                                    cases e318
                                    have qi318 : (0 < ((rd_T43 t310 x8_1).f0).length) = True := eq_true (by omega)
                                    (try rw [show ((0 : Int)).toNat = 0 from rfl] at hx318_0)
                                    (try rw [show 0 * 3 = 0 from rfl] at hx318_0)
                                    (try rw [Addr.add_zero'] at hx318_0)
                                    (try rw [show ((0 : Int)).toNat = 0 from rfl] at hx318_1)
                                    (try rw [show 0 * 3 = 0 from rfl] at hx318_1)
                                    (try rw [Addr.add_zero'] at hx318_1)
                                    (try rw [show ((0 : Int)).toNat = 0 from rfl] at hx318_2)
                                    (try rw [show 0 * 3 = 0 from rfl] at hx318_2)
                                    (try rw [Addr.add_zero'] at hx318_2)
                                    replace p318 := eq_true p318
                                    replace q318 := eq_true q318
                                    have p319 : 0 ≤ (x9_1 : Int) := of_decide_eq_true (by first | (with_reducible assumption) | assumption)
                                    have q319 : x9_1 < (t307.length : Int) := of_decide_eq_true (by first | (with_reducible assumption) | assumption)
                                    obtain ⟨ad319, A319_0, c319_0, e319, hx319_0, hx319_1, hl319_0, hi319_0⟩ := at_T41 (Kd.S_reads' HO_6.out).2.2 x9_1 p319 q319
                                    obtain rfl : ad314 = ad319 := (by injection e319)
                                    obtain ⟨ce319, hce319, hMe319, hcc319⟩ := Kd.S_get HO_6.out z41 x9_1 p319 (by first | exact q319 | exact of_decide_eq_true (by first | (with_reducible assumption) | assumption) | (have e_ := (Kd.S_reads' HO_6.out).1; omega))
                                    obtain ⟨ve319_0, rfl, ge319_0⟩ := k41_openM hMe319
                                    have hv319_0 := hcc319 0 _ rfl
                                    rw [Nat.add_zero] at hv319_0
                                    replace hv319_0 := Option.some.inj (hv319_0.symm.trans hx319_0)
                                    rw [hv319_0] at ge319_0
                                    have HL319_0 := Aside0.mk (show Kd.R k38 38 _ _ _ _ ((rd_T41 t307 x9_1).f0) from ge319_0)
                                    clear hv319_0 ge319_0
                                    clear hcc319 hce319
                                    have HR319_0 := Aside0.mk hi319_0
                                    have HC319_0 := Aside0.mk hl319_0
                                    clear hi319_0 hl319_0
                                    replace p319 := eq_true p319
                                    replace q319 := eq_true q319
                                    have ea_ := Option.some.inj (hx314_0.symm.trans hx319_0)
                                    injection ea_ with ea_ en_ ec_
                                    subst ea_
                                    subst ec_
                                    clear en_
                                    have p320 : 0 ≤ (0 : Int) := (by omega)
                                    have q320 : 0 < (((rd_T41 t307 x9_1).f0).length : Int) := of_decide_eq_true (by first | (with_reducible assumption) | assumption)
                                    obtain ⟨ad320, e320, hx320_0, hx320_1, hx320_2⟩ := at_T38 (by repeat (first | (with_reducible exact HR319_0.out) | (with_reducible refine Kd.C_alloc ?_ _) | (with_reducible refine Kd.C_drewN ?_ _) | (with_reducible refine Kd.C_drew ?_) | exact HR319_0.out)) 0 p320 q320
                                    cases e320
                                    have qi320 : (0 < ((rd_T41 t307 x9_1).f0).length) = True := eq_true (by omega)
                                    (try rw [show ((0 : Int)).toNat = 0 from rfl] at hx320_0)
                                    (try rw [show 0 * 3 = 0 from rfl] at hx320_0)
                                    (try rw [Addr.add_zero'] at hx320_0)
                                    (try rw [show ((0 : Int)).toNat = 0 from rfl] at hx320_1)
                                    (try rw [show 0 * 3 = 0 from rfl] at hx320_1)
                                    (try rw [Addr.add_zero'] at hx320_1)
                                    (try rw [show ((0 : Int)).toNat = 0 from rfl] at hx320_2)
                                    (try rw [show 0 * 3 = 0 from rfl] at hx320_2)
                                    (try rw [Addr.add_zero'] at hx320_2)
                                    replace p320 := eq_true p320
                                    replace q320 := eq_true q320
                                    have p321 : 0 ≤ (x8_1 : Int) := of_decide_eq_true (by first | (with_reducible assumption) | assumption)
                                    have q321 : x8_1 < (t310.length : Int) := of_decide_eq_true (by first | (with_reducible assumption) | assumption)
                                    obtain ⟨ad321, A321_0, c321_0, e321, hx321_0, hx321_1, hl321_0, hi321_0⟩ := at_T43 (Kd.V_reads' HO_7.out).2.2 x8_1 p321 q321
                                    obtain rfl : ad316 = ad321 := (by injection e321)
                                    obtain ⟨ce321, hce321, hMe321, hcc321⟩ := Kd.V_get HO_7.out z43 x8_1 p321 (by first | exact q321 | exact of_decide_eq_true (by first | (with_reducible assumption) | assumption) | (have e_ := (Kd.V_reads' HO_7.out).1; omega))
                                    obtain ⟨ua321_0, uc321_0, rfl, ul321_0, ge321_0⟩ := k43_openF hMe321
                                    have hv321_0 := hcc321 0 _ rfl
                                    rw [Nat.add_zero] at hv321_0
                                    replace hv321_0 := Option.some.inj (hv321_0.symm.trans hx321_0)
                                    injection hv321_0 with hva_ hvn_ hvc_
                                    rw [hva_] at ge321_0
                                    rw [hvc_] at ul321_0
                                    have HL321_0 := Aside0.mk (show Kd.V k38 38 _ w.heap.size _ _ ((rd_T43 t310 x8_1).f0) from Kd.V_mk ul321_0 ge321_0)
                                    clear hva_ hvn_ hvc_ ge321_0 ul321_0
                                    clear hcc321 hce321
                                    have HR321_0 := Aside0.mk hi321_0
                                    have HC321_0 := Aside0.mk hl321_0
                                    clear hi321_0 hl321_0
                                    replace p321 := eq_true p321
                                    replace q321 := eq_true q321
                                    have ea_ := Option.some.inj (hx316_0.symm.trans hx321_0)
                                    injection ea_ with ea_ en_ ec_
                                    subst ea_
                                    subst ec_
                                    clear en_
                                    have p322 : 0 ≤ (x8_1 : Int) := of_decide_eq_true (by first | (with_reducible assumption) | assumption)
                                    have q322 : x8_1 < (t310.length : Int) := of_decide_eq_true (by first | (with_reducible assumption) | assumption)
                                    obtain ⟨ad322, A322_0, c322_0, e322, hx322_0, hx322_1, hl322_0, hi322_0⟩ := at_T43 (Kd.V_reads' HO_7.out).2.2 x8_1 p322 q322
                                    obtain rfl : ad316 = ad322 := (by injection e322)
                                    obtain ⟨ce322, hce322, hMe322, hcc322⟩ := Kd.V_get HO_7.out z43 x8_1 p322 (by first | exact q322 | exact of_decide_eq_true (by first | (with_reducible assumption) | assumption) | (have e_ := (Kd.V_reads' HO_7.out).1; omega))
                                    obtain ⟨ua322_0, uc322_0, rfl, ul322_0, ge322_0⟩ := k43_openF hMe322
                                    have hv322_0 := hcc322 0 _ rfl
                                    rw [Nat.add_zero] at hv322_0
                                    replace hv322_0 := Option.some.inj (hv322_0.symm.trans hx322_0)
                                    injection hv322_0 with hva_ hvn_ hvc_
                                    rw [hva_] at ge322_0
                                    rw [hvc_] at ul322_0
                                    have HL322_0 := Aside0.mk (show Kd.V k38 38 _ w.heap.size _ _ ((rd_T43 t310 x8_1).f0) from Kd.V_mk ul322_0 ge322_0)
                                    clear hva_ hvn_ hvc_ ge322_0 ul322_0
                                    clear hcc322 hce322
                                    have HR322_0 := Aside0.mk hi322_0
                                    have HC322_0 := Aside0.mk hl322_0
                                    clear hi322_0 hl322_0
                                    replace p322 := eq_true p322
                                    replace q322 := eq_true q322
                                    have ea_ := Option.some.inj (hx316_0.symm.trans hx322_0)
                                    injection ea_ with ea_ en_ ec_
                                    subst ea_
                                    subst ec_
                                    clear en_
                                    have p323 : 0 ≤ (x8_1 : Int) := of_decide_eq_true (by first | (with_reducible assumption) | assumption)
                                    have q323 : x8_1 < (t310.length : Int) := of_decide_eq_true (by first | (with_reducible assumption) | assumption)
                                    obtain ⟨ad323, A323_0, c323_0, e323, hx323_0, hx323_1, hl323_0, hi323_0⟩ := at_T43 (Kd.V_reads' HO_7.out).2.2 x8_1 p323 q323
                                    obtain rfl : ad316 = ad323 := (by injection e323)
                                    obtain ⟨ce323, hce323, hMe323, hcc323⟩ := Kd.V_get HO_7.out z43 x8_1 p323 (by first | exact q323 | exact of_decide_eq_true (by first | (with_reducible assumption) | assumption) | (have e_ := (Kd.V_reads' HO_7.out).1; omega))
                                    obtain ⟨ua323_0, uc323_0, rfl, ul323_0, ge323_0⟩ := k43_openF hMe323
                                    have hv323_0 := hcc323 0 _ rfl
                                    rw [Nat.add_zero] at hv323_0
                                    replace hv323_0 := Option.some.inj (hv323_0.symm.trans hx323_0)
                                    injection hv323_0 with hva_ hvn_ hvc_
                                    rw [hva_] at ge323_0
                                    rw [hvc_] at ul323_0
                                    have HL323_0 := Aside0.mk (show Kd.V k38 38 _ w.heap.size _ _ ((rd_T43 t310 x8_1).f0) from Kd.V_mk ul323_0 ge323_0)
                                    clear hva_ hvn_ hvc_ ge323_0 ul323_0
                                    clear hcc323 hce323
                                    have HR323_0 := Aside0.mk hi323_0
                                    have HC323_0 := Aside0.mk hl323_0
                                    clear hi323_0 hl323_0
                                    replace p323 := eq_true p323
                                    replace q323 := eq_true q323
                                    have ea_ := Option.some.inj (hx316_0.symm.trans hx323_0)
                                    injection ea_ with ea_ en_ ec_
                                    subst ea_
                                    subst ec_
                                    clear en_
                                    go_wp2
                                    repeat (go_quiet (fail); try go_wp2)
                                    go_ret
                                    exact ⟨by first | rfl | (simp [errW_none, errW_some] <;> rfl) | (simp [*, errW_none, errW_some] <;> rfl), by repeat (first | (with_reducible first | exact HB.out | apply below_alloc | apply pw_below_drewN | apply below_drew1 | refine below_set ?_ GE306.out) | exact HB.out)⟩
                        · rw [if_neg c25] at H
                          exact absurd H (by simp)
                      · rw [if_neg c24] at H
                        exact absurd H (by simp)
                    · rw [if_neg c23] at H
                      have c23b0 : ((((rd_T43 t310 x8_1).f0).length : Int) == 1) = false := beq_eq_false_iff_ne.mpr c23
                      have c23b1 : ((((rd_T43 t310 x8_1).f0).length : Int) != 1) = true := bne_iff_ne.mpr c23
                      obtain rfl := Option.some.inj H
                      have p314 : 0 ≤ (x9_1 : Int) := of_decide_eq_true (by first | (with_reducible assumption) | assumption)
                      have q314 : x9_1 < (t307.length : Int) := of_decide_eq_true (by first | (with_reducible assumption) | assumption)
                      obtain ⟨ad314, A314_0, c314_0, e314, hx314_0, hx314_1, hl314_0, hi314_0⟩ := at_T41 (Kd.S_reads' HO_6.out).2.2 x9_1 p314 q314
                      cases e314
                      obtain ⟨ce314, hce314, hMe314, hcc314⟩ := Kd.S_get HO_6.out z41 x9_1 p314 (by first | exact q314 | exact of_decide_eq_true (by first | (with_reducible assumption) | assumption) | (have e_ := (Kd.S_reads' HO_6.out).1; omega))
                      obtain ⟨ve314_0, rfl, ge314_0⟩ := k41_openM hMe314
                      have hv314_0 := hcc314 0 _ rfl
                      rw [Nat.add_zero] at hv314_0
                      replace hv314_0 := Option.some.inj (hv314_0.symm.trans hx314_0)
                      rw [hv314_0] at ge314_0
                      have HL314_0 := Aside0.mk (show Kd.R k38 38 _ _ _ _ ((rd_T41 t307 x9_1).f0) from ge314_0)
                      clear hv314_0 ge314_0
                      clear hcc314 hce314
                      have HR314_0 := Aside0.mk hi314_0
                      have HC314_0 := Aside0.mk hl314_0
                      clear hi314_0 hl314_0
                      replace p314 := eq_true p314
                      replace q314 := eq_true q314
                      have p315 : 0 ≤ (1 : Int) := (by omega)
                      have q315 : 1 < (((rd_T41 t307 x9_1).f0).length : Int) := of_decide_eq_true (by first | (with_reducible assumption) | assumption)
                      obtain ⟨ad315, e315, hx315_0, hx315_1, hx315_2⟩ := at_T38 (by repeat (first | (with_reducible exact HR314_0.out) | (with_reducible refine Kd.C_alloc ?_ _) | (with_reducible refine Kd.C_drewN ?_ _) | (with_reducible refine Kd.C_drew ?_) | exact HR314_0.out)) 1 p315 q315
                      cases e315
                      (try simp only [show (1 : Int).toNat = 1 from rfl, Nat.reduceMul, Nat.reduceEqDiff, Go.Addr.add, ↓reduceIte] at hx315_0)
                      (try simp only [show (1 : Int).toNat = 1 from rfl, Nat.reduceMul, Nat.reduceEqDiff, Go.Addr.add, ↓reduceIte] at hx315_1)
                      (try simp only [show (1 : Int).toNat = 1 from rfl, Nat.reduceMul, Nat.reduceEqDiff, Go.Addr.add, ↓reduceIte] at hx315_2)
                      have qi315 : (1 < ((rd_T41 t307 x9_1).f0).length) = True := eq_true (by omega)
                      (try rw [show ((1 : Int)).toNat = 1 from rfl] at hx315_0)
                      (try rw [show 1 * 3 = 3 from rfl] at hx315_0)
                      (try rw [show ((1 : Int)).toNat = 1 from rfl] at hx315_1)
                      (try rw [show 1 * 3 = 3 from rfl] at hx315_1)
                      (try rw [show ((1 : Int)).toNat = 1 from rfl] at hx315_2)
                      (try rw [show 1 * 3 = 3 from rfl] at hx315_2)
                      replace p315 := eq_true p315
                      replace q315 := eq_true q315
                      have hcz41_0 : wr.cell? ⟨gb306, 0, none⟩ = some (.string t303) := (blk_cell BK306.out 0).trans rfl
                      have hcz41_1 : wr.cell? ⟨gb306, 1, none⟩ = some (.string t304) := (blk_cell BK306.out 1).trans rfl
                      have hcz41_2 : wr.cell? ⟨gb306, 2, none⟩ = some (.int .i64 t305) := (blk_cell BK306.out 2).trans rfl
                      have hfz41_0 := blk_frozen BK306.out 0
                      have hfz41_1 := blk_frozen BK306.out 1
                      have hfz41_2 := blk_frozen BK306.out 2
                      obtain ⟨Ao42, co42, eo42⟩ := Kd.V_slice HO_7.out
                      subst eo42
                      have p316 : 0 ≤ (x8_1 : Int) := of_decide_eq_true (by first | (with_reducible assumption) | assumption)
                      have q316 : x8_1 < (t310.length : Int) := of_decide_eq_true (by first | (with_reducible assumption) | assumption)
                      obtain ⟨ad316, A316_0, c316_0, e316, hx316_0, hx316_1, hl316_0, hi316_0⟩ := at_T43 (Kd.V_reads' HO_7.out).2.2 x8_1 p316 q316
                      cases e316
                      obtain ⟨ce316, hce316, hMe316, hcc316⟩ := Kd.V_get HO_7.out z43 x8_1 p316 (by first | exact q316 | exact of_decide_eq_true (by first | (with_reducible assumption) | assumption) | (have e_ := (Kd.V_reads' HO_7.out).1; omega))
                      obtain ⟨ua316_0, uc316_0, rfl, ul316_0, ge316_0⟩ := k43_openF hMe316
                      have hv316_0 := hcc316 0 _ rfl
                      rw [Nat.add_zero] at hv316_0
                      replace hv316_0 := Option.some.inj (hv316_0.symm.trans hx316_0)
                      injection hv316_0 with hva_ hvn_ hvc_
                      rw [hva_] at ge316_0
                      rw [hvc_] at ul316_0
                      have HL316_0 := Aside0.mk (show Kd.V k38 38 _ w.heap.size _ _ ((rd_T43 t310 x8_1).f0) from Kd.V_mk ul316_0 ge316_0)
                      clear hva_ hvn_ hvc_ ge316_0 ul316_0
                      clear hcc316 hce316
                      have HR316_0 := Aside0.mk hi316_0
                      have HC316_0 := Aside0.mk hl316_0
                      clear hi316_0 hl316_0
                      replace p316 := eq_true p316
                      replace q316 := eq_true q316
                      go_wp2
                      repeat (go_quiet (fail); try go_wp2)
                      go_ret
                      exact ⟨by first | rfl | (simp [errW_none, errW_some] <;> rfl) | (simp [*, errW_none, errW_some] <;> rfl), by repeat (first | (with_reducible first | exact HB.out | apply below_alloc | apply pw_below_drewN | apply below_drew1 | refine below_set ?_ GE306.out) | exact HB.out)⟩
                  · rw [if_neg c22] at H
                    exact absurd H (by simp)
                · rw [if_neg c21] at H
                  exact absurd H (by simp)
          · rw [if_neg c15] at H
            exact absurd H (by simp)
        · rw [if_neg c14] at H
          exact absurd H (by simp)
      · rw [if_neg c13] at H
        have c13b0 : decide (x9_1 < (t307.length : Int)) = false := decide_eq_false c13
        clear c13
        by_cases c43 : x8_1 = (t310.length : Int)
        · rw [if_pos c43] at H
          have c43b0 : (x8_1 == (t310.length : Int)) = true := beq_iff_eq.mpr c43
          have c43b1 : (x8_1 != (t310.length : Int)) = false := bne_eq_false_iff_eq.mpr c43
          clear c43
          replace H := Option.bind_eq_some_iff.mp H
          obtain ⟨t313, A440, H⟩ := H
          replace H : (some t313) = some r := H
          have A44 := Aside0.mk A440
          clear A440
          obtain rfl := Option.some.inj H
          obtain ⟨Ao45, co45, eo45⟩ := Kd.V_slice HO_7.out
          subst eo45
          go_wp2_with (first | (go_at_call 12; (with_reducible refine (erasurelaw35_awake.calls k1  t313 _ A44.out).mono ?_); rintro e w46 ⟨rfl, hb⟩; have n0_ := Aside0.mk (Kd.S_below (by (with_reducible repeat (first | apply Kd.S_alloc | apply Kd.S_drewN | apply Kd.S_drew)); exact HO_6.out) hb); have n1_ := Aside0.mk (Kd.V_below (by (with_reducible repeat (first | apply Kd.V_alloc | apply Kd.V_drewN | apply Kd.V_drew)); exact HO_7.out) hb); have n2_ := Aside0.mk (blk_below (g := gb306) (o := .cells #[.string t303, .string t304, .int .i64 t305] 23 (0, 0)) (by (with_reducible repeat (first | refine blk_drewN ?_ _ | refine blk_drew ?_ | refine blk_alloc ?_ _)); exact BK306.out) hb); have n3_ := Aside0.mk (below_step (by repeat (first | (with_reducible first | exact HB.out | apply below_alloc | apply pw_below_drewN | apply below_drew1 | refine below_set ?_ GE306.out) | exact HB.out)) hb); clear HO_6; clear HO_7; clear BK306; clear HB; have HO_6 := n0_; have HO_7 := n1_; have BK306 := n2_; have HB := n3_; clear n0_ n1_ n2_ n3_; (try clear hb); (try clear hb2); (try clear hk); (try clear hi)))
          repeat (go_quiet (first | (go_at_call 12; (with_reducible refine (erasurelaw35_awake.calls k1  t313 _ A44.out).mono ?_); rintro e w46 ⟨rfl, hb⟩; have n0_ := Aside0.mk (Kd.S_below (by (with_reducible repeat (first | apply Kd.S_alloc | apply Kd.S_drewN | apply Kd.S_drew)); exact HO_6.out) hb); have n1_ := Aside0.mk (Kd.V_below (by (with_reducible repeat (first | apply Kd.V_alloc | apply Kd.V_drewN | apply Kd.V_drew)); exact HO_7.out) hb); have n2_ := Aside0.mk (blk_below (g := gb306) (o := .cells #[.string t303, .string t304, .int .i64 t305] 23 (0, 0)) (by (with_reducible repeat (first | refine blk_drewN ?_ _ | refine blk_drew ?_ | refine blk_alloc ?_ _)); exact BK306.out) hb); have n3_ := Aside0.mk (below_step (by repeat (first | (with_reducible first | exact HB.out | apply below_alloc | apply pw_below_drewN | apply below_drew1 | refine below_set ?_ GE306.out) | exact HB.out)) hb); clear HO_6; clear HO_7; clear BK306; clear HB; have HO_6 := n0_; have HO_7 := n1_; have BK306 := n2_; have HB := n3_; clear n0_ n1_ n2_ n3_; (try clear hb); (try clear hb2); (try clear hk); (try clear hi))); try go_wp2_with (first | (go_at_call 12; (with_reducible refine (erasurelaw35_awake.calls k1  t313 _ A44.out).mono ?_); rintro e w46 ⟨rfl, hb⟩; have n0_ := Aside0.mk (Kd.S_below (by (with_reducible repeat (first | apply Kd.S_alloc | apply Kd.S_drewN | apply Kd.S_drew)); exact HO_6.out) hb); have n1_ := Aside0.mk (Kd.V_below (by (with_reducible repeat (first | apply Kd.V_alloc | apply Kd.V_drewN | apply Kd.V_drew)); exact HO_7.out) hb); have n2_ := Aside0.mk (blk_below (g := gb306) (o := .cells #[.string t303, .string t304, .int .i64 t305] 23 (0, 0)) (by (with_reducible repeat (first | refine blk_drewN ?_ _ | refine blk_drew ?_ | refine blk_alloc ?_ _)); exact BK306.out) hb); have n3_ := Aside0.mk (below_step (by repeat (first | (with_reducible first | exact HB.out | apply below_alloc | apply pw_below_drewN | apply below_drew1 | refine below_set ?_ GE306.out) | exact HB.out)) hb); clear HO_6; clear HO_7; clear BK306; clear HB; have HO_6 := n0_; have HO_7 := n1_; have BK306 := n2_; have HB := n3_; clear n0_ n1_ n2_ n3_; (try clear hb); (try clear hb2); (try clear hk); (try clear hi))))
          go_ret
          exact ⟨by first | rfl | (simp [errW_none, errW_some] <;> rfl) | (simp [*, errW_none, errW_some] <;> rfl), by repeat (first | (with_reducible first | exact HB.out | apply below_alloc | apply pw_below_drewN | apply below_drew1 | refine below_set ?_ GE306.out) | exact HB.out)⟩
        · rw [if_neg c43] at H
          have c43b0 : (x8_1 == (t310.length : Int)) = false := beq_eq_false_iff_ne.mpr c43
          have c43b1 : (x8_1 != (t310.length : Int)) = true := bne_iff_ne.mpr c43
          obtain rfl := Option.some.inj H
          obtain ⟨Ao47, co47, eo47⟩ := Kd.V_slice HO_7.out
          subst eo47
          go_wp2
          repeat (go_quiet (fail); try go_wp2)
          go_ret
          exact ⟨by first | rfl | (simp [errW_none, errW_some] <;> rfl) | (simp [*, errW_none, errW_some] <;> rfl), by repeat (first | (with_reducible first | exact HB.out | apply below_alloc | apply pw_below_drewN | apply below_drew1 | refine below_set ?_ GE306.out) | exact HB.out)⟩
end Go.Proofs.Ytjhnpaenhdbhpaa.P
namespace Go.Proofs.Ytjhnpaenhdbhpaa.Q
open Go.RowKit Go.Proofs.Ytjhnpaenhdbhpaa.P Go.Proofs.YtjhnpaenhdbhpaaW.PrintWords Go.Proofs.YtjhnpaenhdbhpaaW.PrintLast
set_option linter.unusedVariables false
set_option linter.unusedSimpArgs false
theorem wr {n : Int} (h : -9223372036854775808 ≤ n ∧ n ≤ 9223372036854775807) : wrap64 n = n := by unfold wrap64; omega
theorem bits_mask_all (i : Nat) (hi : i < 63) (x : Int) : Go.bits .and .i64 x (2 ^ i - 1) = x % 2 ^ i := by
  have hpos : 0 < 2 ^ i := Nat.two_pow_pos i
  have hlt : 2 ^ i < 2 ^ 63 := Nat.pow_lt_pow_right (by decide) hi
  have hc : ((2 : Int) ^ i - 1) = ((2 ^ i - 1 : Nat) : Int) := by rw [Int.natCast_sub hpos]; simp
  rw [hc]
  unfold Go.bits
  have hb : (IntKind.i64).bits = 64 := rfl
  simp only [BitVec.toNat_and, BitVec.toNat_ofInt, BitVec.ofInt_natCast, BitVec.toNat_ofNat, hb]
  have h1 : (2 ^ i - 1) % 2 ^ 64 = 2 ^ i - 1 := Nat.mod_eq_of_lt (Nat.lt_of_lt_of_le (Nat.sub_lt hpos (by decide)) (Nat.le_of_lt (Nat.lt_trans hlt (by decide))))
  rw [h1, Nat.and_two_pow_sub_one_eq_mod]
  have h2 : (((x % ((2 ^ 64 : Nat) : Int)).toNat % 2 ^ i : Nat) : Int) = x % 2 ^ i := by
    rw [Int.natCast_emod, Int.toNat_of_nonneg (Int.emod_nonneg _ (by decide))]
    have hd : ((2 ^ i : Nat) : Int) ∣ ((2 ^ 64 : Nat) : Int) := by
      refine Int.natCast_dvd_natCast.2 (Nat.pow_dvd_pow 2 (by omega))
    rw [Int.emod_emod_of_dvd _ hd]
    simp
  rw [h2]
  have h3 : 0 ≤ x % 2 ^ i := Int.emod_nonneg _ (by have : (0 : Int) < 2 ^ i := by exact_mod_cast hpos
                                                   omega)
  have h4 : x % 2 ^ i < 2 ^ i := Int.emod_lt_of_pos _ (by exact_mod_cast hpos)
  have h5 : (2 : Int) ^ i < 2 ^ 63 := by exact_mod_cast hlt
  rw [IntKind.wrap_i64]
  omega
theorem and1023 (x : Int) : Go.bits .and .i64 x 1023 = x % 1024 := bits_mask_all 10 (by decide) x
theorem and15 (x : Int) : Go.bits .and .i64 x 15 = x % 16 := bits_mask_all 4 (by decide) x
theorem Ev.ite_pos {α : Type} {g f : Nat → Option α} {r : α} {c : Prop} [Decidable c] (h : c) (k : Ev g r) : Ev (fun n => if c then g n else f n) r := Ev.congr (fun n => if_pos h) k
theorem Ev.ite_neg {α : Type} {g f : Nat → Option α} {r : α} {c : Prop} [Decidable c] (h : ¬ c) (k : Ev f r) : Ev (fun n => if c then g n else f n) r := Ev.congr (fun n => if_neg h) k
theorem Ev.bindc {α β : Type} {o : Option α} {f : Nat → α → Option β} {a : α} {r : β} (h : o = some a) (k : Ev (fun n => f n a) r) : Ev (fun n => o.bind (f n)) r := Ev.congr (fun n => by rw [h]; rfl) k
theorem Ev.done {α : Type} {o : Option α} {r : α} (h : o = some r) : Ev (fun _ => o) r := ⟨0, fun _ _ => h⟩
theorem bytes_ext {a b : ByteArray} (h : a.toList = b.toList) : a = b := by
  have e : a.data.toList = b.data.toList := by rw [← ByteArray.toList_eq, ← ByteArray.toList_eq]; exact h
  cases a; cases b
  congr 1
  exact Array.toList_inj.1 e
theorem emptyBytes : (⟨#[]⟩ : ByteArray).toList = [] := by rw [ByteArray.toList_eq]
theorem emptyBytes_iff (a : ByteArray) : a.toList = [] ↔ a = (⟨#[]⟩ : ByteArray) := ⟨fun h => bytes_ext (h.trans emptyBytes.symm), fun h => by rw [h]; exact emptyBytes⟩
theorem Ev.succ {α : Type} {g : Nat → Option α} {r : α} (k : Ev (fun n => g (n + 1)) r) : Ev g r := by
  obtain ⟨K, h⟩ := k
  exact ⟨K + 1, fun k hk => by obtain ⟨m, rfl⟩ : ∃ m, k = m + 1 := ⟨k - 1, by omega⟩; exact h m (by omega)⟩
theorem loop_down {P : Nat → Prop} (n : Nat) (hend : P n) (hstep : ∀ i, i < n → P (i + 1) → P i) : ∀ i, i ≤ n → P i := by
  intro i hi
  have key : ∀ d i, i + d = n → P i := by
    intro d
    induction d with
    | zero => intro i h; have : i = n := by omega
              rw [this]; exact hend
    | succ d ih => intro i h; exact hstep i (by omega) (ih (i + 1) (by omega))
  exact key (n - i) i (by omega)
theorem wrn {i n : Nat} (h : i < n) (hn : n ≤ 9223372036854775807) : wrap64 ((i : Int) + 1) = ((i + 1 : Nat) : Int) := by rw [wr (by omega)]; omega
theorem wrp {i : Nat} (h : 0 < i) (hn : i ≤ 9223372036854775807) : wrap64 ((i : Int) - 1) = ((i - 1 : Nat) : Int) := by rw [wr (by omega)]; omega
theorem drop_cons {α : Type} (z : α) {l : List α} {i : Nat} (h : i < l.length) : l.drop i = l.getD (i : Int).toNat z :: l.drop (i + 1) := by
  rw [List.drop_eq_getElem_cons h]; simp [h]
end Go.Proofs.Ytjhnpaenhdbhpaa.Q
namespace Go.Proofs.Ytjhnpaenhdbhpaa.Q
open Go.RowKit Go.Proofs.Ytjhnpaenhdbhpaa.P Go.Proofs.YtjhnpaenhdbhpaaW.PrintWords Go.Proofs.YtjhnpaenhdbhpaaW.PrintLast
set_option linter.unusedVariables false
set_option linter.unusedSimpArgs false
def okV (x : S38) : Bool :=
  if x.f0 = 0 then decide (x.f1 = 0) && decide (x.f2 = (⟨#[]⟩ : ByteArray))
  else if x.f0 = 1 then decide (-4294967296 ≤ x.f1 ∧ x.f1 ≤ 4294967296) && decide (x.f2 = (⟨#[]⟩ : ByteArray))
  else if x.f0 = 2 then decide (x.f1 = 0) && decide (x.f2.size ≤ 32)
  else false
def clV (x : S38) : S38 := if okV x then x else z38
theorem beq_empty (a : ByteArray) : (a.toList == ([] : List UInt8)) = decide (a = (⟨#[]⟩ : ByteArray)) := by
  rw [Bool.eq_iff_iff, beq_iff_eq, decide_eq_true_eq]; exact emptyBytes_iff a
theorem value_Valid_eq (a b : Int) (c : ByteArray) : value_Valid.f a b c = some (okV ⟨a, b, c⟩) := by
  unfold value_Valid.f value_inRange.f okV
  simp only [beq_empty]
  by_cases h0 : a = 0
  · simp only [if_pos h0]
    by_cases h1 : b = 0 <;> simp [h1]
  · simp only [if_neg h0]
    by_cases h1 : a = 1
    · simp only [if_pos h1]
      by_cases h2 : b ≥ -4294967296
      · rw [if_pos h2]; simp only [Option.bind_some, decide_eq_true_eq]
        by_cases h3 : b ≤ 4294967296
        · rw [if_pos h3]; simp [h3]; omega
        · rw [if_neg h3]; simp [h3]
      · rw [if_neg h2]; simp; omega
    · simp only [if_neg h1]
      by_cases h2 : a = 2
      · simp only [if_pos h2]
        by_cases h3 : b = 0
        · simp [h3]; omega
        · simp [h3]
      · simp [h2]
theorem ref01_Valid_eq (a b : Int) (c : ByteArray) : erasureref01_Valid.f a b c = some (okV ⟨a, b, c⟩) := by
  rw [← value_Valid_eq]
  unfold erasureref01_Valid.f value_Valid.f value_inRange.f
  by_cases h0 : a = 0
  · simp only [if_pos h0]
  · simp only [if_neg h0]
    by_cases h1 : a = 1
    · simp only [if_pos h1]
      by_cases h2 : b ≥ -4294967296
      · simp only [if_pos h2, Option.bind_some, decide_eq_true_eq]
      · simp only [if_neg h2, Option.bind_some, Bool.false_eq_true, if_false]
    · simp only [if_neg h1]
theorem value_Clean_eq (x : S38) : value_Clean.f x.f0 x.f1 x.f2 = some ((clV x).f0, (clV x).f1, (clV x).f2) := by
  unfold value_Clean.f clV
  rw [value_Valid_eq, Option.bind_some]
  by_cases h : okV x = true
  · rw [if_pos h, if_pos h]
  · rw [if_neg h, if_neg h]; rfl
theorem ref01_Clean_eq (x : S38) : erasureref01_Clean.f x.f0 x.f1 x.f2 = some ((clV x).f0, (clV x).f1, (clV x).f2) := by
  unfold erasureref01_Clean.f clV
  rw [ref01_Valid_eq, Option.bind_some]
  by_cases h : okV x = true
  · rw [if_pos h, if_pos h]
  · rw [if_neg h, if_neg h]; rfl
theorem clV_ok {x : S38} (h : okV x = true) : clV x = x := if_pos h
def cmpI (a b : Int) : Int := if a < b then -1 else if b < a then 1 else 0
def cmpB (a b : ByteArray) : Int := if a.toList < b.toList then -1 else if b.toList < a.toList then 1 else 0
def cmpC (a b : S38) : Int := if a.f0 ≠ b.f0 then cmpI a.f0 b.f0 else if a.f0 = 1 then cmpI a.f1 b.f1 else cmpB a.f2 b.f2
def cmpV (x y : S38) : Int := cmpC (clV x) (clV y)
theorem cmp_int_eq (a b : Int) : cmp_Compare_int.f a b = some (cmpI a b) := by
  unfold cmp_Compare_int.f cmp_isNaN_int.f cmpI
  simp only [Option.bind_some, bne_self_eq_false, Bool.false_eq_true, if_false, GT.gt]
  by_cases h : a < b
  · rw [if_pos h, if_pos h]
  · rw [if_neg h, if_neg h]
    by_cases h2 : b < a
    · rw [if_pos h2, if_pos h2]
    · rw [if_neg h2, if_neg h2]
theorem cmp_int64_eq (a b : Int) : cmp_Compare_int64.f a b = some (cmpI a b) := by
  unfold cmp_Compare_int64.f cmp_isNaN_int64.f cmpI
  simp only [Option.bind_some, bne_self_eq_false, Bool.false_eq_true, if_false, GT.gt]
  by_cases h : a < b
  · rw [if_pos h, if_pos h]
  · rw [if_neg h, if_neg h]
    by_cases h2 : b < a
    · rw [if_pos h2, if_pos h2]
    · rw [if_neg h2, if_neg h2]
theorem cmp_string_eq (a b : ByteArray) : cmp_Compare_string.f a b = some (cmpB a b) := by
  unfold cmp_Compare_string.f cmp_isNaN_string.f cmpB
  simp only [Option.bind_some, bne_self_eq_false, Bool.false_eq_true, if_false, YtjhnpaenhdbhpaaHp.bytesLess_eq, decide_eq_true_eq]
  by_cases h : a.toList < b.toList
  · rw [if_pos h, if_pos h]
  · rw [if_neg h, if_neg h]
    by_cases h2 : b.toList < a.toList
    · rw [if_pos h2, if_pos h2]
    · rw [if_neg h2, if_neg h2]
theorem value_Compare_eq (x y : S38) : value_Compare.f x.f0 x.f1 x.f2 y.f0 y.f1 y.f2 = some (cmpV x y) := by
  unfold value_Compare.f cmpV cmpC
  rw [value_Clean_eq, value_Clean_eq]
  simp only [Option.bind_some, cmp_int_eq, cmp_int64_eq, cmp_string_eq, ne_eq, ite_not]
  by_cases h : (clV x).f0 = (clV y).f0
  · rw [if_pos h, if_pos h]
    by_cases h1 : (clV x).f0 = 1
    · rw [if_pos h1, if_pos h1]
    · rw [if_neg h1, if_neg h1]
  · rw [if_neg h, if_neg h]
theorem cmpI_neg {a b : Int} : cmpI a b < 0 ↔ a < b := by unfold cmpI; split <;> (try split) <;> omega
end Go.Proofs.Ytjhnpaenhdbhpaa.Q
namespace Go.Proofs.Ytjhnpaenhdbhpaa.Q
open Go.RowKit Go.Proofs.Ytjhnpaenhdbhpaa.P Go.Proofs.YtjhnpaenhdbhpaaW.PrintWords Go.Proofs.YtjhnpaenhdbhpaaW.PrintLast
set_option linter.unusedVariables false
set_option linter.unusedSimpArgs false
theorem dV {l : List S38} {i : Nat} (h : i < l.length) : l.drop i = rd_T38 l (i : Int) :: l.drop (i + 1) := drop_cons z38 h
theorem dE {l : List S41} {i : Nat} (h : i < l.length) : l.drop i = rd_T41 l (i : Int) :: l.drop (i + 1) := drop_cons z41 h
def cmpR : List S38 → List S38 → Int
  | [], [] => 0
  | [], _ :: _ => -1
  | _ :: _, [] => 1
  | x :: xs, y :: ys => if cmpV x y = 0 then cmpR xs ys else cmpV x y
theorem value_CompareRows_eq : ∀ (xs ys : List S38), value_CompareRows.f xs ys = some (cmpR xs ys)
  | [], [] => rfl
  | [], _ :: _ => rfl
  | _ :: _, [] => rfl
  | x :: xs, y :: ys => by
    unfold value_CompareRows.f cmpR
    rw [value_Compare_eq, Option.bind_some, value_CompareRows_eq xs ys]
    split <;> rfl
def okR (l : List S38) : Bool := l.all okV && decide (l.length ≤ 16)
theorem value_ValidRow_ev (l : List S38) (hl : l.length ≤ 9223372036854775807) : Ev (fun k => value_ValidRow.f k l) (okR l) := by
  unfold value_ValidRow.f
  refine (loop_down (P := fun i => Ev (fun k => value_ValidRow.l0 k l l (l.length : Int) (i : Int)) ((l.drop i).all okV && decide (l.length ≤ 16))) l.length ?_ ?_ 0 (by omega))
  · refine Ev.succ ?_
    simp only [value_ValidRow.l0]
    rw [List.drop_length]
    refine Ev.ite_neg (by omega) (Ev.done ?_)
    simp; omega
  · intro i hi ih
    refine Ev.succ ?_
    simp only [value_ValidRow.l0, value_Valid_eq, Option.bind_some]
    refine Ev.ite_pos (by omega) (Ev.ite_pos (by omega) (Ev.ite_pos (by omega) ?_))
    rw [dV hi, wrn hi hl, List.all_cons]
    show Ev (fun k => if okV (rd_T38 l (i : Int)) = true then _ else _) _
    cases hc : okV (rd_T38 l (i : Int)) with
    | true => exact Ev.ite_pos rfl ih
    | false => exact Ev.ite_neg (by simp) (Ev.now _)
def okE (e : S41) : Bool := okR e.f0 && decide (-262144 ≤ e.f1 ∧ e.f1 ≤ 262144)
theorem countFits_eq (n : Int) : bag_countFits.f n = some (decide (-262144 ≤ n ∧ n ≤ 262144)) := by
  unfold bag_countFits.f
  by_cases h : n ≥ -262144
  · rw [if_pos h]; simp; omega
  · rw [if_neg h]; simp; omega
theorem entryFits_ev (e : S41) (hl : e.f0.length ≤ 9223372036854775807) : Ev (fun k => bag_entryFits.f k e.f0 e.f1) (okE e) := by
  unfold bag_entryFits.f okE
  refine Ev.bind (value_ValidRow_ev _ hl) ?_
  cases hc : okR e.f0 with
  | true => simp only [if_true, countFits_eq, Option.bind_some, Bool.true_and]; exact Ev.now _
  | false => simp only [Bool.false_eq_true, if_false, Bool.false_and]; exact Ev.now _
def bvF : Option S41 → List S41 → Bool
  | _, [] => true
  | none, e :: l => okE e && !decide (e.f1 = 0) && bvF (some e) l
  | some p, e :: l => okE e && !decide (e.f1 = 0) && decide (cmpR p.f0 e.f0 < 0) && bvF (some e) l
def bagV (l : List S41) : Bool := bvF none l && decide (l.length ≤ 4096)
def prevE (l : List S41) (i : Nat) : Option S41 := if i = 0 then none else some (rd_T41 l ((i - 1 : Nat) : Int))
def Fin (l : List S41) : Prop := l.length ≤ 9223372036854775807 ∧ ∀ e ∈ l, e.f0.length ≤ 9223372036854775807
theorem Fin.at {l : List S41} (h : Fin l) {i : Nat} (hi : i < l.length) : (rd_T41 l (i : Int)).f0.length ≤ 9223372036854775807 := by
  refine h.2 _ ?_
  simp [rd_T41, hi]
theorem bag_Valid_ev (l : List S41) (hl : Fin l) : Ev (fun k => bag_Valid.f k l) (bagV l) := by
  unfold bag_Valid.f
  refine (loop_down (P := fun i => Ev (fun k => bag_Valid.l0 k l l (l.length : Int) (i : Int)) (bvF (prevE l i) (l.drop i) && decide (l.length ≤ 4096))) l.length ?_ ?_ 0 (by omega))
  · refine Ev.succ ?_
    simp only [bag_Valid.l0]
    rw [List.drop_length]
    refine Ev.ite_neg (by omega) (Ev.done ?_)
    simp [bvF]; omega
  · intro i hi ih
    have hp : prevE l (i + 1) = some (rd_T41 l (i : Int)) := by simp [prevE]
    rw [hp] at ih
    refine Ev.succ ?_
    simp only [bag_Valid.l0, value_CompareRows_eq, Option.bind_some]
    refine Ev.ite_pos (by omega) (Ev.ite_pos (by omega) (Ev.ite_pos (by omega) (Ev.bind (entryFits_ev _ (hl.at hi)) ?_)))
    rw [dE hi, wrn hi hl.1]
    by_cases h0 : i = 0
    · subst h0
      simp only [prevE, if_true, bvF]
      cases hc : okE (rd_T41 l ((0 : Nat) : Int)) with
      | false => simp only [Bool.false_and]; exact Ev.ite_neg (by simp) (Ev.now _)
      | true =>
        refine Ev.ite_pos rfl ?_
        by_cases hz : (rd_T41 l ((0 : Nat) : Int)).f1 = 0
        · rw [decide_eq_true hz]; exact Ev.ite_pos hz (Ev.now _)
        · rw [decide_eq_false hz]; refine Ev.ite_neg hz (Ev.ite_neg (by omega) ?_); simpa using ih
    · simp only [prevE, if_neg h0, bvF]
      have hl1 := hl.1
      rw [wrp (by omega) (by omega)]
      cases hc : okE (rd_T41 l (i : Int)) with
      | false => simp only [Bool.false_and]; exact Ev.ite_neg (by simp) (Ev.now _)
      | true =>
        refine Ev.ite_pos rfl ?_
        by_cases hz : (rd_T41 l (i : Int)).f1 = 0
        · rw [decide_eq_true hz]; exact Ev.ite_pos hz (Ev.now _)
        · rw [decide_eq_false hz]
          refine Ev.ite_neg hz (Ev.ite_pos (by omega) (Ev.ite_pos (by omega) (Ev.ite_pos (by omega) ?_)))
          by_cases hcmp : cmpR (rd_T41 l ((i - 1 : Nat) : Int)).f0 (rd_T41 l (i : Int)).f0 < 0
          · rw [decide_eq_true hcmp]; exact Ev.ite_neg (by omega) (by simpa using ih)
          · rw [decide_eq_false hcmp]; exact Ev.ite_pos (by omega) (Ev.now _)
end Go.Proofs.Ytjhnpaenhdbhpaa.Q
namespace Go.Proofs.Ytjhnpaenhdbhpaa.Q
open Go.RowKit Go.Proofs.Ytjhnpaenhdbhpaa.P Go.Proofs.YtjhnpaenhdbhpaaW.PrintWords Go.Proofs.YtjhnpaenhdbhpaaW.PrintLast
set_option linter.unusedVariables false
set_option linter.unusedSimpArgs false
theorem dU {l : List S43} {i : Nat} (h : i < l.length) : l.drop i = rd_T43 l (i : Int) :: l.drop (i + 1) := drop_cons z43 h
theorem awake_ev : Ev (fun k => erasurelaw35_awake.f k) true := Ev.of (fun k => erasurelaw35_awake.mono k) (k := 40) (by decide +kernel)
theorem cleaned_ev (l : List S38) (hl : l.length < 4398046511104) : Ev (fun k => release_cleaned.f k l) (l.map clV) := by
  unfold release_cleaned.f
  have key : ∀ i, i ≤ l.length → ∀ acc : List S38, acc.length = i → Ev (fun k => release_cleaned.l0 k l acc (i : Int)) (acc ++ (l.drop i).map clV) := by
    refine loop_down (P := fun i => ∀ acc : List S38, acc.length = i → Ev (fun k => release_cleaned.l0 k l acc (i : Int)) (acc ++ (l.drop i).map clV)) l.length ?_ ?_
    · intro acc _
      refine Ev.succ ?_
      simp only [release_cleaned.l0]
      rw [List.drop_length]
      exact Ev.ite_neg (by omega) (Ev.done (by simp))
    · intro i hi ih acc ha
      refine Ev.succ ?_
      simp only [release_cleaned.l0, value_Clean_eq, Option.bind_some]
      refine Ev.ite_pos (by omega) (Ev.ite_pos (by omega) (Ev.ite_pos (by omega) ?_))
      rw [dV hi, wrn hi (by omega), List.map_cons]
      have := ih (acc ++ [clV (rd_T38 l (i : Int))]) (by simp [ha])
      simpa using this
  simpa using key 0 (by omega) [] rfl
def pubE (T keys : Int) (e : S41) : Option S43 :=
  if e.f1 = 1 ∧ keys < (e.f0.length : Int) ∧ (rd_T38 e.f0 keys).f0 = 1 ∧ T ≤ (rd_T38 e.f0 keys).f1 ∧ (rd_T38 e.f0 keys).f1 ≤ 4294967296 then
    some ⟨(e.f0.take keys.toNat).map clV, (rd_T38 e.f0 keys).f1 - Int.tmod (rd_T38 e.f0 keys).f1 T⟩ else none
def pubS (T keys : Int) (l : List S41) : List S43 := if T < 1 ∨ keys < 0 ∨ bagV l = false then [] else l.filterMap (pubE T keys)
theorem tmod_rng {n T : Int} (h1 : 1 ≤ T) (h2 : T ≤ n) : 0 ≤ Int.tmod n T ∧ Int.tmod n T < T := ⟨Int.tmod_nonneg _ (by omega), Int.tmod_lt_of_pos _ (by omega)⟩
theorem step_ev (T keys : Int) (hT : 1 ≤ T) (hk : 0 ≤ keys) (e : S41) (ys : List S43) (he : e.f0.length < 4398046511104) (hy : ys.length < 4398046511104) :
    Ev (fun k => release_Publish.step k keys T e ys) (ys ++ (pubE T keys e).toList) := by
  unfold release_Publish.step pubE
  by_cases c1 : e.f1 = 1
  · refine Ev.ite_pos c1 ?_
    by_cases c2 : keys < (e.f0.length : Int)
    · refine Ev.ite_pos c2 (Ev.ite_pos hk ?_)
      by_cases c3 : (rd_T38 e.f0 keys).f0 = 1
      · refine Ev.ite_pos c3 ?_
        by_cases c4 : (rd_T38 e.f0 keys).f1 < T
        · refine Ev.ite_pos c4 (Ev.done ?_)
          rw [if_neg (fun h => by omega)]; simp
        · refine Ev.ite_neg c4 ?_
          by_cases c5 : (rd_T38 e.f0 keys).f1 > 4294967296
          · refine Ev.ite_pos c5 (Ev.done ?_)
            rw [if_neg (fun h => by omega)]; simp
          · refine Ev.ite_neg c5 (Ev.bind (cleaned_ev _ (by rw [List.length_take]; omega)) (Ev.ite_neg (by omega) (Ev.ite_pos hy (Ev.done ?_))))
            have hr := tmod_rng hT (show T ≤ (rd_T38 e.f0 keys).f1 by omega)
            rw [if_pos ⟨c1, c2, c3, by omega, by omega⟩, wr (by omega)]
            rfl
      · refine Ev.ite_neg c3 (Ev.done ?_)
        rw [if_neg (fun h => c3 h.2.2.1)]; simp
    · refine Ev.ite_neg c2 (Ev.done ?_)
      rw [if_neg (fun h => c2 h.2.1)]; simp
  · refine Ev.ite_neg c1 (Ev.done ?_)
    rw [if_neg (fun h => c1 h.1)]; simp
theorem go_ev (T keys : Int) (hT : 1 ≤ T) (hk : 0 ≤ keys) : ∀ (l : List S41) (ys : List S43), (∀ e ∈ l, e.f0.length < 4398046511104) → ys.length + l.length < 4398046511104 →
    Ev (fun k => release_Publish.go k keys T l ys) (ys ++ l.filterMap (pubE T keys))
  | [], ys, _, _ => by simp only [release_Publish.go]; exact Ev.done (by simp)
  | e :: l, ys, h1, h2 => by
    simp only [release_Publish.go]
    simp only [List.length_cons] at h2
    refine Ev.bind (step_ev T keys hT hk e ys (h1 e (by simp)) (by omega)) ?_
    have h3 : (ys ++ (pubE T keys e).toList).length + l.length < 4398046511104 := by
      cases pubE T keys e <;> simp <;> omega
    have := go_ev T keys hT hk l (ys ++ (pubE T keys e).toList) (fun x hx => h1 x (by simp [hx])) h3
    cases hp : pubE T keys e with
    | none => rw [hp] at this; rw [List.filterMap_cons_none hp]; simpa using this
    | some u => rw [hp] at this; rw [List.filterMap_cons_some hp]; simpa using this
theorem bvF_mem : ∀ (l : List S41) (p : Option S41), bvF p l = true → ∀ e ∈ l, okE e = true
  | [], _, _, e, he => by cases he
  | x :: l, p, h, e, he => by
    have h1 : okE x = true ∧ bvF (some x) l = true := by
      cases p <;> simp only [bvF, Bool.and_eq_true] at h
      · exact ⟨h.1.1, h.2⟩
      · exact ⟨h.1.1.1, h.2⟩
    rcases List.mem_cons.1 he with rfl | he
    · exact h1.1
    · exact bvF_mem l _ h1.2 e he
theorem bagV_mem {l : List S41} (h : bagV l = true) : ∀ e ∈ l, okE e = true := by
  simp only [bagV, Bool.and_eq_true] at h
  exact bvF_mem l none h.1
theorem bagV_len {l : List S41} (h : bagV l = true) : l.length ≤ 4096 := by
  simp only [bagV, Bool.and_eq_true, decide_eq_true_eq] at h
  exact h.2
theorem okE_len {e : S41} (h : okE e = true) : e.f0.length ≤ 16 := by
  simp only [okE, okR, Bool.and_eq_true, decide_eq_true_eq] at h
  exact h.1.2
theorem Publish_ev (a b : ByteArray) (T keys : Int) (l : List S41) (hl : Fin l) : Ev (fun k => release_Publish.f k a b T keys l) (pubS T keys l) := by
  unfold release_Publish.f pubS
  by_cases c1 : T < 1
  · rw [if_pos (.inl c1)]; exact Ev.ite_pos c1 (Ev.now _)
  · refine Ev.ite_neg c1 ?_
    by_cases c2 : keys < 0
    · rw [if_pos (.inr (.inl c2))]; exact Ev.ite_pos c2 (Ev.now _)
    · refine Ev.ite_neg c2 (Ev.bind (bag_Valid_ev l hl) ?_)
      cases hb : bagV l with
      | false => simp only [Bool.false_eq_true, if_false]; rw [if_pos (by simp)]; exact Ev.now _
      | true =>
        simp only [if_true]
        rw [if_neg (by simp; omega)]
        have := go_ev T keys (by omega) (by omega) l [] (fun e he => by have := okE_len (bagV_mem hb e he); omega) (by have := bagV_len hb; simp; omega)
        simpa using this
end Go.Proofs.Ytjhnpaenhdbhpaa.Q
namespace Go.Proofs.Ytjhnpaenhdbhpaa.Q
open Go.RowKit Go.Proofs.Ytjhnpaenhdbhpaa.P Go.Proofs.YtjhnpaenhdbhpaaW.PrintWords Go.Proofs.YtjhnpaenhdbhpaaW.PrintLast
set_option linter.unusedVariables false
set_option linter.unusedSimpArgs false
def intV (n : Int) : S38 := ⟨1, n, ⟨#[]⟩⟩
theorem okV_int {n : Int} (h : -4294967296 ≤ n ∧ n ≤ 4294967296) : okV (intV n) = true := by
  unfold okV intV
  rw [if_neg (show ¬ ((1 : Int) = 0) by decide), if_pos rfl]
  simp [h]
theorem ref01_Int_eq {n : Int} (h : -4294967296 ≤ n ∧ n ≤ 4294967296) : erasureref01_Int.f n = some (1, n, ⟨#[]⟩) := by
  unfold erasureref01_Int.f
  have := ref01_Clean_eq (intV n)
  rw [clV_ok (okV_int h)] at this
  have e : erasureref01_Clean.f 1 n ⟨#[]⟩ = some (1, n, ⟨#[]⟩) := this
  rw [e]; rfl
def rowG (i : Nat) (n : Int) : S41 := ⟨[intV i, intV n], 1⟩
def grpS : Nat → List Int → List S41
  | _, [] => []
  | i, c :: l => if i < 40 then (if c % 1024 > 0 then [rowG i (c % 1024)] else []) ++ grpS (i + 1) l else []
theorem rd_at (l : List Int) {i : Nat} (h : i < l.length) : l.drop i = rd l (i : Int) :: l.drop (i + 1) := drop_cons 0 h
theorem grpS_over : ∀ (l : List Int) (i : Nat), ¬ i < 40 → grpS i l = []
  | [], _, _ => rfl
  | _ :: _, _, h => by unfold grpS; rw [if_neg h]
theorem Groups_ev (l : List Int) (hl : l.length ≤ 9223372036854775807) : Ev (fun k => erasurelaw35_Groups.f k l) (grpS 0 l) := by
  unfold erasurelaw35_Groups.f
  have hend : ∀ i, ∀ acc : List S41, (i ≤ l.length) → (¬ i < l.length ∨ ¬ i < 40) → Ev (fun k => erasurelaw35_Groups.j1 k l acc (i : Int) false) (acc ++ grpS i (l.drop i)) := by
    intro i acc hi hn
    refine Ev.succ ?_
    simp only [erasurelaw35_Groups.j1, Bool.false_eq_true, if_false]
    refine Ev.done ?_
    rcases hn with hn | hn
    · rw [List.drop_eq_nil_of_le (by omega)]; simp [grpS]
    · rw [grpS_over _ _ hn]; simp
  have key : ∀ i, i ≤ l.length → ∀ acc : List S41, acc.length ≤ 40 → acc.length ≤ i → Ev (fun k => erasurelaw35_Groups.l0 k l acc (i : Int)) (acc ++ grpS i (l.drop i)) := by
    refine loop_down (P := fun i => ∀ acc : List S41, acc.length ≤ 40 → acc.length ≤ i → Ev (fun k => erasurelaw35_Groups.l0 k l acc (i : Int)) (acc ++ grpS i (l.drop i))) l.length ?_ ?_
    · intro acc _ _
      refine Ev.succ ?_
      simp only [erasurelaw35_Groups.l0]
      exact Ev.ite_neg (by omega) (hend _ acc (Nat.le_refl _) (.inl (by omega)))
    · intro i hi ih acc h1 h2
      refine Ev.succ ?_
      simp only [erasurelaw35_Groups.l0]
      refine Ev.ite_pos (by omega) ?_
      by_cases h40 : i < 40
      · have hd : decide ((i : Int) < 40) = true := decide_eq_true (by omega)
        rw [hd]
        refine Ev.succ ?_
        simp only [erasurelaw35_Groups.j1, if_true, and1023]
        refine Ev.ite_pos (by omega) (Ev.ite_pos (by omega) ?_)
        rw [rd_at l hi, wrn hi hl]
        unfold grpS
        rw [if_pos h40]
        have hm : 0 ≤ rd l (i : Int) % 1024 ∧ rd l (i : Int) % 1024 < 1024 := by omega
        by_cases hg : rd l (i : Int) % 1024 > 0
        · rw [if_pos hg]
          refine Ev.ite_pos hg (Ev.bindc (ref01_Int_eq (by omega)) (Ev.bindc (ref01_Int_eq (by omega)) (Ev.ite_pos (by omega) ?_)))
          have := ih (acc ++ [rowG i (rd l (i : Int) % 1024)]) (by simp; omega) (by simp; omega)
          simpa [rowG, intV] using this
        · rw [if_neg hg]
          exact Ev.ite_neg hg (by simpa using ih acc h1 (by omega))
      · have hd : decide ((i : Int) < 40) = false := decide_eq_false (by omega)
        rw [hd]
        exact hend i acc (by omega) (.inr h40)
  simpa using key 0 (by omega) [] (by simp) (by simp)
def IsG : Nat → List S41 → Prop
  | _, [] => True
  | i, e :: l => ∃ (a : Nat) (n : Int), i ≤ a ∧ a < 40 ∧ 0 < n ∧ n < 1024 ∧ e = rowG a n ∧ IsG (a + 1) l
theorem IsG.le : ∀ {l : List S41} {i j : Nat}, IsG j l → i ≤ j → IsG i l
  | [], _, _, _, _ => trivial
  | _ :: _, _, _, ⟨a, n, h1, h2, h3, h4, h5, h6⟩, h => ⟨a, n, by omega, h2, h3, h4, h5, h6⟩
theorem grpS_is : ∀ (l : List Int) (i : Nat), IsG i (grpS i l)
  | [], _ => trivial
  | c :: l, i => by
    unfold grpS
    by_cases h : i < 40
    · rw [if_pos h]
      by_cases hc : c % 1024 > 0
      · rw [if_pos hc]
        exact ⟨i, c % 1024, Nat.le_refl _, h, hc, by omega, rfl, grpS_is l (i + 1)⟩
      · rw [if_neg hc]
        exact (grpS_is l (i + 1)).le (by omega)
    · rw [if_neg h]; trivial
theorem cmpV_int {a b : Int} (ha : -4294967296 ≤ a ∧ a ≤ 4294967296) (hb : -4294967296 ≤ b ∧ b ≤ 4294967296) : cmpV (intV a) (intV b) = cmpI a b := by
  unfold cmpV
  rw [clV_ok (okV_int ha), clV_ok (okV_int hb)]
  rfl
theorem okE_rowG {a : Nat} {n : Int} (ha : a < 40) (hn : 0 < n ∧ n < 1024) : okE (rowG a n) = true := by
  unfold okE okR rowG
  simp [okV_int (show -4294967296 ≤ (a : Int) ∧ (a : Int) ≤ 4294967296 by omega), okV_int (show -4294967296 ≤ n ∧ n ≤ 4294967296 by omega)]
theorem IsG.bvF : ∀ {l : List S41} {i : Nat} (p : Option S41), IsG i l → (∀ e, p = some e → ∃ (a : Nat) (n : Int), a < i ∧ a < 40 ∧ 0 < n ∧ n < 1024 ∧ e = rowG a n) → Q.bvF p l = true
  | [], _, p, _, _ => by cases p <;> rfl
  | e :: l, i, p, ⟨a, n, h1, h2, h3, h4, h5, h6⟩, hp => by
    subst h5
    have ht := IsG.bvF (some (rowG a n)) h6 (fun e he => ⟨a, n, by omega, h2, h3, h4, (Option.some.inj he).symm⟩)
    have hk := okE_rowG h2 ⟨h3, h4⟩
    cases p with
    | none => simp only [Q.bvF, hk, ht]; simp [rowG]
    | some q =>
      obtain ⟨b, m, b1, b2, b3, b4, rfl⟩ := hp q rfl
      have hc : cmpR (rowG b m).f0 (rowG a n).f0 < 0 := by
        show cmpR [intV b, intV m] [intV a, intV n] < 0
        unfold cmpR
        have e1 : cmpV (intV b) (intV a) = cmpI b a := cmpV_int (by omega) (by omega)
        have e2 : cmpI (b : Int) (a : Int) < 0 := cmpI_neg.2 (by omega)
        rw [e1, if_neg (by omega)]; exact e2
      simp only [Q.bvF, hk, ht, decide_eq_true hc]; simp [rowG]
theorem IsG.len : ∀ {l : List S41} {i : Nat}, IsG i l → l.length + i ≤ 40 ∨ l = []
  | [], _, _ => .inr rfl
  | e :: l, i, ⟨a, n, h1, h2, h3, h4, h5, h6⟩ => by
    rcases h6.len with h | h
    · left; simp; omega
    · subst h; left; simp; omega
theorem IsG.len40 {l : List S41} {i : Nat} (h : IsG i l) : l.length ≤ 40 := by
  rcases h.len with h | h
  · omega
  · subst h; simp
theorem IsG.bagV {l : List S41} {i : Nat} (h : IsG i l) : Q.bagV l = true := by
  unfold Q.bagV
  rw [h.bvF none (fun e he => by cases he), decide_eq_true (by have := h.len40; omega)]; rfl
theorem IsG.fin {l : List S41} : ∀ {i : Nat}, IsG i l → Fin l := by
  intro i h
  refine ⟨by have := h.len40; omega, fun e he => ?_⟩
  have := okE_len (bagV_mem h.bagV e he)
  omega
def limS (n : Int) : Int := 1 + n % 16
theorem limit_eq (n : Int) : erasurelaw35_limit.f n = some (⟨#[]⟩, ⟨#[]⟩, limS n) := by
  unfold erasurelaw35_limit.f limS
  rw [and15, wr (by omega)]
theorem limS_rng (n : Int) : 1 ≤ limS n ∧ limS n ≤ 16 := by unfold limS; omega
def pubG (T : Int) (a : Nat) (n : Int) : S43 := ⟨[intV a], n - Int.tmod n T⟩
theorem pubE_rowG {T : Int} {a : Nat} {n : Int} (ha : a < 40) (hn : 0 < n ∧ n < 1024) : pubE T 1 (rowG a n) = if T ≤ n then some (pubG T a n) else none := by
  unfold pubE rowG pubG
  have e1 : rd_T38 [intV a, intV n] 1 = intV n := rfl
  simp only [e1, List.length_cons, List.length_nil]
  have e2 : (List.take (Int.toNat 1) [intV a, intV n]).map clV = [intV a] := by
    show [clV (intV a)] = [intV a]
    rw [clV_ok (okV_int (by omega))]
  rw [e2]
  by_cases h : T ≤ n
  · rw [if_pos ⟨trivial, by omega, rfl, h, by show n ≤ _; omega⟩, if_pos h]; rfl
  · rw [if_neg (fun x => h x.2.2.2.1), if_neg h]
theorem pubS_grp {T : Int} (hT : 1 ≤ T) {l : List S41} {i : Nat} (h : IsG i l) : pubS T 1 l = l.filterMap (pubE T 1) := by
  unfold pubS
  rw [if_neg (by rw [h.bagV]; simp; omega)]
end Go.Proofs.Ytjhnpaenhdbhpaa.Q
