/- Part of the proof of ReleaseValid: printed by programs of this repo out of the translation, and by hand. Each theorem's conditions stand in its statement. -/
import Derived.Test.YtjhnpaenhdbhpaaMReleaseValida
import Derived.Test.YtjhnpaenhdbhpaaMReleaseValidb
namespace Go.Proofs.Ytjhnpaenhdbhpaa.P
open Go.RowKit Go.Proofs.YtjhnpaenhdbhpaaW.PrintWords Go.Proofs.YtjhnpaenhdbhpaaW.PrintLast Go.Proofs.YtjhnpaenhdbhpaaW.PrintMore
attribute [local go_sem] max2_int min2_int max_two min_two max_three min_three max_four min_four
set_option linter.unusedVariables false
set_option linter.unusedSimpArgs false
def bag_entryFits.f (k : Nat) (l0_0 : List (S38)) (a0_1 : Int) : Option (Bool) := (value_ValidRow.f k l0_0).bind fun t128 => (if t128 = true then ((bag_countFits.f a0_1).bind fun t129 => (some t129)) else (some false))
theorem bag_entryFits.mono : ∀ a0 a1 k, LeO (bag_entryFits.f k a0 a1) (bag_entryFits.f (k + 1) a0 a1) := by
 intro a0 a1 k
 unfold bag_entryFits.f
 repeat' first
   | (with_reducible exact value_ValidRow.mono _ _)
   | (with_reducible exact LeO.refl _)
   | (with_reducible exact LeO.none _)
   | (with_reducible refine LeO.ite ?_ ?_)
   | (with_reducible refine LeO.bind ?_ (fun _ => ?_))
   | exact value_ValidRow.mono _ _
   | exact LeO.none _
   | refine LeO.ite ?_ ?_
   | refine LeO.bind ?_ (fun _ => ?_)
set_option maxHeartbeats 8000000 in
set_option maxRecDepth 100000 in
theorem bag_entryFits.calls (k : Nat) (A0_0 : Option Addr) (c0_0 : Nat) (l0_0 : List (S38)) (a0_1 : Int) (r : Bool) (w : World) (hr0_0 : Kd.C k38 w A0_0 l0_0.length l0_0) (hc0_0 : l0_0.length ≤ c0_0) (h : bag_entryFits.f k l0_0 a0_1 = some r) :
  Calls Try.prog 46 #[.agg #[.slice A0_0 l0_0.length c0_0, .int .i64 a0_1]] w fun e w' => e = .returned (.bool r) ∧ Below w.heap.size w w' := by
 have hu41 := Try.underlying41
 have HR0_0 := Aside0.mk hr0_0
 have HC0_0 := Aside0.mk hc0_0
 clear hr0_0 hc0_0
 have HB := Aside0.mk (Below.refl w.heap.size w)
 have H : ((value_ValidRow.f k l0_0).bind fun t128 => (if t128 = true then ((bag_countFits.f a0_1).bind fun t129 => (some t129)) else (some false))) = some r := h
 clear h
 replace H := Option.bind_eq_some_iff.mp H
 obtain ⟨t128, A20, H⟩ := H
 replace H : (if t128 = true then ((bag_countFits.f a0_1).bind fun t129 => (some t129)) else (some false)) = some r := H
 have A2 := Aside0.mk A20
 clear A20
 by_cases c3 : t128 = true
 ·subst c3
  have H1 : ((bag_countFits.f a0_1).bind fun t129 => (some t129)) = some r := by rw [if_pos rfl] at H; exact H
  clear H
  have H := H1
  clear H1
  replace H := Option.bind_eq_some_iff.mp H
  obtain ⟨t129, A40, H⟩ := H
  replace H : (some t129) = some r := H
  have A4 := Aside0.mk A40
  clear A40
  obtain rfl := Option.some.inj H
  go_enter Try.func46, Try.ntmps46
  go_wp2_with (first | ((with_reducible refine gate_dst (N := 1) rfl ?_); refine box_event ?hg (N := 1) ?hd (cs := #[.slice A0_0 l0_0.length c0_0, .int .i64 a0_1]) (t := 41) ?hr ?_; (case hd => rfl); (case hg => rfl); (case hr => first | (go_simp; done) | (go_simp; rfl)); intro gb127 hg w5 hbox hb; have n0_ := Aside0.mk (below_step (by repeat (first | (with_reducible first | exact HB.out | apply below_alloc | apply pw_below_drewN | apply below_drew1) | exact HB.out)) hb); have n1_ := Aside0.mk (hbox); have n2_ := Aside0.mk ((by rw [hg]; exact (below_size (by repeat (first | (with_reducible first | exact HB.out | apply below_alloc | apply pw_below_drewN | apply below_drew1) | exact HB.out))) : w.heap.size ≤ gb127)); have n3_ := Aside0.mk ((by rw [hg]; exact (below_size (by repeat (first | (with_reducible first | exact HB.out | apply below_alloc | apply pw_below_drewN | apply below_drew1) | exact HB.out))) : w.heap.size ≤ gb127)); clear HB; have HB := n0_; have BK127 := n1_; have GW127 := n2_; have GE127 := n3_; clear n0_ n1_ n2_ n3_; clear hb hbox hg; have hcz6_0 : w5.cell? ⟨gb127, 0, none⟩ = some (.slice A0_0 l0_0.length c0_0) := (blk_cell BK127.out 0).trans rfl; have hcz6_1 : w5.cell? ⟨gb127, 1, none⟩ = some (.int .i64 a0_1) := (blk_cell BK127.out 1).trans rfl; have hfz6_0 := blk_frozen BK127.out 0; have hfz6_1 := blk_frozen BK127.out 1) | ((with_reducible refine gate_callee (f := 53) rfl ?_); refine goesL_ (some 5) rfl rfl Try.func53 (by kernel_rfl) rfl #[.slice A0_0 l0_0.length c0_0] rfl (by (try simp only [List.map_toArray, List.map_cons, List.map_nil]); first | done | rfl | (simp only [List.length_drop, List.length_take]; rfl)) ?_; (with_reducible refine (value_ValidRow.calls k _ _ l0_0 true _ ?side1 ?side2 A2.out).mono ?_); (case side1 => repeat (first | exact (Kd.C_below HR0_0.out HB.out) | (with_reducible refine Kd.C_alloc ?_ _) | (with_reducible refine Kd.C_drewN ?_ _) | (with_reducible refine Kd.C_drew ?_))); (case side2 => exact HC0_0.out); rintro e w7 ⟨rfl, hb⟩; refine ⟨_, rfl, ?_⟩; have n0_ := Aside0.mk (blk_below (g := gb127) (o := .cells #[.slice A0_0 l0_0.length c0_0, .int .i64 a0_1] 41 (0, 0)) (by (with_reducible repeat (first | refine blk_drewN ?_ _ | refine blk_drew ?_ | refine blk_alloc ?_ _)); exact BK127.out) hb); have n1_ := Aside0.mk (below_step (by repeat (first | (with_reducible first | exact HB.out | apply below_alloc | apply pw_below_drewN | apply below_drew1 | refine below_set ?_ GE127.out) | exact HB.out)) hb); clear BK127; clear HB; have BK127 := n0_; have HB := n1_; clear n0_ n1_; (try clear hb); (try clear hb2); (try clear hk); (try clear hi); have hcz8_0 : w7.cell? ⟨gb127, 0, none⟩ = some (.slice A0_0 l0_0.length c0_0) := (blk_cell BK127.out 0).trans rfl; have hcz8_1 : w7.cell? ⟨gb127, 1, none⟩ = some (.int .i64 a0_1) := (blk_cell BK127.out 1).trans rfl; have hfz8_0 := blk_frozen BK127.out 0; have hfz8_1 := blk_frozen BK127.out 1) | (go_at_call 54; (with_reducible refine (bag_countFits.calls a0_1 t129 _ A4.out).mono ?_); rintro e w' ⟨rfl, ⟨nd, rfl⟩⟩))
  go_ret
  exact ⟨by first | rfl | (simp [errW_none, errW_some] <;> rfl) | (simp [*, errW_none, errW_some] <;> rfl), by repeat (first | (with_reducible first | exact HB.out | apply below_alloc | apply pw_below_drewN | apply below_drew1 | refine below_set ?_ GE127.out) | exact HB.out)⟩
 ·replace c3 := Bool.eq_false_iff.mpr c3
  subst c3
  have H1 : (some false) = some r := by rw [if_neg (show ¬ (false = true) by decide)] at H; exact H
  clear H
  have H := H1
  clear H1
  obtain rfl := Option.some.inj H
  go_enter Try.func46, Try.ntmps46
  go_wp2_with (first | ((with_reducible refine gate_dst (N := 1) rfl ?_); refine box_event ?hg (N := 1) ?hd (cs := #[.slice A0_0 l0_0.length c0_0, .int .i64 a0_1]) (t := 41) ?hr ?_; (case hd => rfl); (case hg => rfl); (case hr => first | (go_simp; done) | (go_simp; rfl)); intro gb127 hg w9 hbox hb; have n0_ := Aside0.mk (below_step (by repeat (first | (with_reducible first | exact HB.out | apply below_alloc | apply pw_below_drewN | apply below_drew1) | exact HB.out)) hb); have n1_ := Aside0.mk (hbox); have n2_ := Aside0.mk ((by rw [hg]; exact (below_size (by repeat (first | (with_reducible first | exact HB.out | apply below_alloc | apply pw_below_drewN | apply below_drew1) | exact HB.out))) : w.heap.size ≤ gb127)); have n3_ := Aside0.mk ((by rw [hg]; exact (below_size (by repeat (first | (with_reducible first | exact HB.out | apply below_alloc | apply pw_below_drewN | apply below_drew1) | exact HB.out))) : w.heap.size ≤ gb127)); clear HB; have HB := n0_; have BK127 := n1_; have GW127 := n2_; have GE127 := n3_; clear n0_ n1_ n2_ n3_; clear hb hbox hg; have hcz10_0 : w9.cell? ⟨gb127, 0, none⟩ = some (.slice A0_0 l0_0.length c0_0) := (blk_cell BK127.out 0).trans rfl; have hcz10_1 : w9.cell? ⟨gb127, 1, none⟩ = some (.int .i64 a0_1) := (blk_cell BK127.out 1).trans rfl; have hfz10_0 := blk_frozen BK127.out 0; have hfz10_1 := blk_frozen BK127.out 1) | ((with_reducible refine gate_callee (f := 53) rfl ?_); refine goesL_ (some 5) rfl rfl Try.func53 (by kernel_rfl) rfl #[.slice A0_0 l0_0.length c0_0] rfl (by (try simp only [List.map_toArray, List.map_cons, List.map_nil]); first | done | rfl | (simp only [List.length_drop, List.length_take]; rfl)) ?_; (with_reducible refine (value_ValidRow.calls k _ _ l0_0 false _ ?side1 ?side2 A2.out).mono ?_); (case side1 => repeat (first | exact (Kd.C_below HR0_0.out HB.out) | (with_reducible refine Kd.C_alloc ?_ _) | (with_reducible refine Kd.C_drewN ?_ _) | (with_reducible refine Kd.C_drew ?_))); (case side2 => exact HC0_0.out); rintro e w11 ⟨rfl, hb⟩; refine ⟨_, rfl, ?_⟩; have n0_ := Aside0.mk (blk_below (g := gb127) (o := .cells #[.slice A0_0 l0_0.length c0_0, .int .i64 a0_1] 41 (0, 0)) (by (with_reducible repeat (first | refine blk_drewN ?_ _ | refine blk_drew ?_ | refine blk_alloc ?_ _)); exact BK127.out) hb); have n1_ := Aside0.mk (below_step (by repeat (first | (with_reducible first | exact HB.out | apply below_alloc | apply pw_below_drewN | apply below_drew1 | refine below_set ?_ GE127.out) | exact HB.out)) hb); clear BK127; clear HB; have BK127 := n0_; have HB := n1_; clear n0_ n1_; (try clear hb); (try clear hb2); (try clear hk); (try clear hi)))
  go_ret
  exact ⟨by first | rfl | (simp [errW_none, errW_some] <;> rfl) | (simp [*, errW_none, errW_some] <;> rfl), by repeat (first | (with_reducible first | exact HB.out | apply below_alloc | apply pw_below_drewN | apply below_drew1 | refine below_set ?_ GE127.out) | exact HB.out)⟩
end Go.Proofs.Ytjhnpaenhdbhpaa.P
namespace Go.Proofs.Ytjhnpaenhdbhpaa.P
open Go.RowKit Go.Proofs.YtjhnpaenhdbhpaaW.PrintWords Go.Proofs.YtjhnpaenhdbhpaaW.PrintLast Go.Proofs.YtjhnpaenhdbhpaaW.PrintMore
attribute [local go_sem] max2_int min2_int max_two min_two max_three min_three max_four min_four
set_option linter.unusedVariables false
set_option linter.unusedSimpArgs false
def bag_Valid.l0 : Nat → List (S41) → List (S41) → Int → Int → Option (Bool)
 | 0, _, _, _, _ => none
 | k + 1, x0, x5, x6, x7 => if x7 < x6 then (if 0 ≤ x7 then (if x7 < (x5.length : Int) then ((bag_entryFits.f k ((rd_T41 x5 x7).f0) ((rd_T41 x5 x7).f1)).bind fun t132 => (if t132 = true then (if ((rd_T41 x5 x7).f1) = 0 then (some false) else (if x7 > 0 then (if 0 ≤ (wrap64 (x7 - 1)) then (if (wrap64 (x7 - 1)) < (x0.length : Int) then ((value_CompareRows.f ((rd_T41 x0 (wrap64 (x7 - 1))).f0) ((rd_T41 x5 x7).f0)).bind fun t134 => (if t134 ≥ 0 then (some false) else (bag_Valid.l0 k x0 x5 x6 (wrap64 (x7 + 1))))) else (none)) else (none)) else (bag_Valid.l0 k x0 x5 x6 (wrap64 (x7 + 1))))) else (some false))) else (none)) else (none)) else (some (decide ((x0.length : Int) ≤ 4096)))
def bag_Valid.f (k : Nat) (l0 : List (S41)) : Option (Bool) := bag_Valid.l0 k l0 l0 (l0.length : Int) 0
theorem bag_Valid.mono_l : ∀ k, (∀ y0 y1 y2 y3, LeO (bag_Valid.l0 k y0 y1 y2 y3) (bag_Valid.l0 (k + 1) y0 y1 y2 y3))
 | 0 => fun _ _ _ _ r h => by simp [bag_Valid.l0] at h
 | k + 1 => by
  have ih0 := bag_Valid.mono_l k
  ·intro y0 y1 y2 y3
   unfold bag_Valid.l0
   repeat' first
   | (with_reducible exact ih0 _ _ _ _)
   | (with_reducible exact bag_entryFits.mono _ _ _)
   | (with_reducible exact LeO.refl _)
   | (with_reducible exact LeO.none _)
   | (with_reducible refine LeO.ite ?_ ?_)
   | (with_reducible refine LeO.bind ?_ (fun _ => ?_))
   | exact ih0 _ _ _ _
   | exact bag_entryFits.mono _ _ _
   | exact LeO.none _
   | refine LeO.ite ?_ ?_
   | refine LeO.bind ?_ (fun _ => ?_)
theorem bag_Valid.mono : ∀ a0 k, LeO (bag_Valid.f k a0) (bag_Valid.f (k + 1) a0) := by
 intro a0 k
 have ih0 := bag_Valid.mono_l k
 unfold bag_Valid.f
 repeat' first
   | (with_reducible exact ih0 _ _ _ _)
   | (with_reducible exact bag_entryFits.mono _ _ _)
   | (with_reducible exact LeO.refl _)
   | (with_reducible exact LeO.none _)
   | (with_reducible refine LeO.ite ?_ ?_)
   | (with_reducible refine LeO.bind ?_ (fun _ => ?_))
   | exact ih0 _ _ _ _
   | exact bag_entryFits.mono _ _ _
   | exact LeO.none _
   | refine LeO.ite ?_ ?_
   | refine LeO.bind ?_ (fun _ => ?_)
def bag_Valid.T4 : Bool × List (List Nat × List Nat) := (true, [([], []), ([0], [0]), ([1], [1]), ([2, 1], [2]), ([3], [3]), ([4, 3], [3, 4]), ([5, 3], [3, 5]), ([3, 6], [3, 6]), ([7, 3], [7]), ([8], [8]), ([9, 8], [8, 9]), ([10, 8, 8], [8, 10]), ([11], [11]), ([11], [11]), ([13, 11], [11, 13]), ([12, 14, 11], [11, 12, 14]), ([15, 11], [11, 15]), ([16, 11], [11, 16]), ([11], [11]), ([18, 11], [11, 18]), ([17, 19, 11, 11], [11, 17, 19]), ([20, 11], [11, 20]), ([11, 21, 8], [8, 11, 21]), ([8, 22], [8, 22])])
def bag_Valid.B4 : List Nat := [0, 1, 3, 7, 15, 31, 63, 127, 255, 511, 1023, 2047, 4095, 4095, 12287, 32767, 65535, 131071, 4095, 266239, 1048575, 2097151, 4194303, 8388607]
theorem bag_Valid.tab4 : rtab .any (opsOf Try.f35 4) = bag_Valid.T4 := by kernel_rfl
theorem bag_Valid.bits4 : waitsOk bag_Valid.T4.2 bag_Valid.B4 = true := by kernel_rfl
set_option maxHeartbeats 8000000 in
set_option maxRecDepth 100000 in
theorem bag_Valid.calls (k : Nat) (A0 : Option Addr) (c0 : Nat) (l0 : List (S41)) (r : Bool) (w : World) (hr0 : Kd.C k41 w A0 l0.length l0) (hc0 : l0.length ≤ c0) (h : bag_Valid.f k l0 = some r) :
  Calls Try.prog 35 #[.slice A0 l0.length c0] w fun e w' => e = .returned (.bool r) ∧ Below w.heap.size w w' := by
 have hu41 := Try.underlying41
 have HR0 := Aside0.mk hr0
 have HC0 := Aside0.mk hc0
 clear hr0 hc0
 have HB := Aside0.mk (Below.refl w.heap.size w)
 have H : (bag_Valid.l0 k l0 l0 (l0.length : Int) 0) = some r := h
 clear h
 have H' := Aside0.mk H
 clear H
 go_enter Try.func35, Try.ntmps35
 go_wp2
 go_loopg [7] k (fun kq v7 w' => ∃ (x7_1 : Int), v7 = .int .i64 x7_1 ∧ Aside0 (bag_Valid.l0 kq l0 l0 (l0.length : Int) x7_1 = some r) ∧ Aside0 (kq ≤ k) ∧ Aside0 (Below w.heap.size w w'))
 case atStart => exact ⟨(0), (by first | rfl | (simp; done) | (simp [*]; done)), H', ⟨Nat.le_refl _⟩, ⟨by repeat (first | (with_reducible first | exact HB.out | apply below_alloc | apply pw_below_drewN | apply below_drew1) | exact HB.out)⟩⟩
 case round =>
  clear H'
  obtain ⟨x7_1, rfl, HA, HK1, HB⟩ := hrel
  cases gk with
  | zero => exact absurd HA.out (by simp [bag_Valid.l0])
  | succ k1 =>
   have H := HA.out
   clear HA
   simp only [bag_Valid.l0] at H
   by_cases c2 : x7_1 < (l0.length : Int)
   ·rw [if_pos c2] at H
    have c2b0 : decide (x7_1 < (l0.length : Int)) = true := decide_eq_true c2
    clear c2
    by_cases c3 : 0 ≤ x7_1
    ·rw [if_pos c3] at H
     have c3b0 : decide (0 ≤ x7_1) = true := decide_eq_true c3
     clear c3
     by_cases c4 : x7_1 < (l0.length : Int)
     ·rw [if_pos c4] at H
      have c4b0 : decide (x7_1 < (l0.length : Int)) = true := decide_eq_true c4
      clear c4
      replace H := Option.bind_eq_some_iff.mp H
      obtain ⟨t132, A50, H⟩ := H
      replace H : (if t132 = true then (if ((rd_T41 l0 x7_1).f1) = 0 then (some false) else (if x7_1 > 0 then (if 0 ≤ (wrap64 (x7_1 - 1)) then (if (wrap64 (x7_1 - 1)) < (l0.length : Int) then ((value_CompareRows.f ((rd_T41 l0 (wrap64 (x7_1 - 1))).f0) ((rd_T41 l0 x7_1).f0)).bind fun t134 => (if t134 ≥ 0 then (some false) else (bag_Valid.l0 k1 l0 l0 (l0.length : Int) (wrap64 (x7_1 + 1))))) else (none)) else (none)) else (bag_Valid.l0 k1 l0 l0 (l0.length : Int) (wrap64 (x7_1 + 1))))) else (some false)) = some r := H
      have A5 := Aside0.mk A50
      clear A50
      by_cases c6 : t132 = true
      ·subst c6
       have H1 : (if ((rd_T41 l0 x7_1).f1) = 0 then (some false) else (if x7_1 > 0 then (if 0 ≤ (wrap64 (x7_1 - 1)) then (if (wrap64 (x7_1 - 1)) < (l0.length : Int) then ((value_CompareRows.f ((rd_T41 l0 (wrap64 (x7_1 - 1))).f0) ((rd_T41 l0 x7_1).f0)).bind fun t134 => (if t134 ≥ 0 then (some false) else (bag_Valid.l0 k1 l0 l0 (l0.length : Int) (wrap64 (x7_1 + 1))))) else (none)) else (none)) else (bag_Valid.l0 k1 l0 l0 (l0.length : Int) (wrap64 (x7_1 + 1))))) = some r := by rw [if_pos rfl] at H; exact H
       clear H
       have H := H1
       clear H1
       by_cases c7 : ((rd_T41 l0 x7_1).f1) = 0
       ·rw [if_pos c7] at H
        have c7b0 : (((rd_T41 l0 x7_1).f1) == 0) = true := beq_iff_eq.mpr c7
        have c7b1 : (((rd_T41 l0 x7_1).f1) != 0) = false := bne_eq_false_iff_eq.mpr c7
        clear c7
        obtain rfl := Option.some.inj H
        have p130 : 0 ≤ (x7_1 : Int) := of_decide_eq_true (by first | (with_reducible assumption) | assumption)
        have q130 : x7_1 < (l0.length : Int) := of_decide_eq_true (by first | (with_reducible assumption) | assumption)
        obtain ⟨ad130, A130_0, c130_0, e130, hx130_0, hx130_1, hl130_0, hi130_0⟩ := at_T41 HR0.out x7_1 p130 q130
        cases e130
        replace hx130_0 := (HB.out.cell (World.block_lt_of_cell? w _ hx130_0)).trans hx130_0
        replace hx130_1 := (HB.out.cell (World.block_lt_of_cell? w _ hx130_1)).trans hx130_1
        have HR130_0 := Aside0.mk hi130_0
        have HC130_0 := Aside0.mk hl130_0
        clear hi130_0 hl130_0
        replace p130 := eq_true p130
        replace q130 := eq_true q130
        try go_wp2_with (first | ((with_reducible refine gate_dst (N := 4) rfl ?_); refine box_event ?hg (N := 4) ?hd (cs := #[.slice none 0 0, .int .i64 0]) (t := 41) ?hr ?_; (case hd => rfl); (case hg => rfl); (case hr => first | (go_simp; done) | (go_simp; rfl)); intro gb131 hg w8 hbox hb; have n0_ := Aside0.mk (below_step (by repeat (first | (with_reducible first | exact HB.out | apply below_alloc | apply pw_below_drewN | apply below_drew1) | exact HB.out)) hb); have n1_ := Aside0.mk (hbox); have n2_ := Aside0.mk ((by rw [hg]; exact (below_size (by repeat (first | (with_reducible first | exact HB.out | apply below_alloc | apply pw_below_drewN | apply below_drew1) | exact HB.out))) : w.heap.size ≤ gb131)); have n3_ := Aside0.mk ((by rw [hg]; exact (below_size (by repeat (first | (with_reducible first | exact HB.out | apply below_alloc | apply pw_below_drewN | apply below_drew1) | exact HB.out))) : w.heap.size ≤ gb131)); clear HB; have HB := n0_; have BK131 := n1_; have GW131 := n2_; have GE131 := n3_; clear n0_ n1_ n2_ n3_; clear hb hbox hg; have hcz9_0 : w8.cell? ⟨gb131, 0, none⟩ = some (.slice none 0 0) := (blk_cell BK131.out 0).trans rfl; have hcz9_1 : w8.cell? ⟨gb131, 1, none⟩ = some (.int .i64 0) := (blk_cell BK131.out 1).trans rfl; have hfz9_0 := blk_frozen BK131.out 0; have hfz9_1 := blk_frozen BK131.out 1))
        have n0_ : Aside0 (((w8.setCell ⟨gb131, 0, none⟩ (.slice A130_0 ((rd_T41 l0 x7_1).f0).length c130_0)).setCell ⟨gb131, 1, none⟩ (.int .i64 ((rd_T41 l0 x7_1).f1))).heap[gb131]? = some (.cells #[.slice A130_0 ((rd_T41 l0 x7_1).f0).length c130_0, .int .i64 ((rd_T41 l0 x7_1).f1)] 41 (0, 0))) := ⟨by (with_reducible repeat (first | refine blk_drewN ?_ _ | refine blk_drew ?_ | refine blk_alloc ?_ _)); refine blk_put (cs := #[.slice A130_0 ((rd_T41 l0 x7_1).f0).length c130_0, .int .i64 0]) ?_ 1 _ rfl; (with_reducible repeat (first | refine blk_drewN ?_ _ | refine blk_drew ?_ | refine blk_alloc ?_ _)); refine blk_put (cs := #[.slice none 0 0, .int .i64 0]) ?_ 0 _ rfl; (with_reducible repeat (first | refine blk_drewN ?_ _ | refine blk_drew ?_ | refine blk_alloc ?_ _)); exact BK131.out⟩
        have n1_ : Aside0 (Below w.heap.size w ((w8.setCell ⟨gb131, 0, none⟩ (.slice A130_0 ((rd_T41 l0 x7_1).f0).length c130_0)).setCell ⟨gb131, 1, none⟩ (.int .i64 ((rd_T41 l0 x7_1).f1)))) := ⟨by repeat (first | (with_reducible first | exact HB.out | apply below_alloc | apply pw_below_drewN | apply below_drew1 | refine below_set ?_ GE131.out) | exact HB.out)⟩
        (try clear BK131)
        (try clear HB)
        generalize ((w8.setCell ⟨gb131, 0, none⟩ (.slice A130_0 ((rd_T41 l0 x7_1).f0).length c130_0)).setCell ⟨gb131, 1, none⟩ (.int .i64 ((rd_T41 l0 x7_1).f1))) = w10 at n0_ n1_ ⊢
        have BK131 := n0_
        have HB := n1_
        clear n0_ n1_
        have n0_ := Aside0.mk (blk_drew BK131.out)
        have n1_ := Aside0.mk (below_drew1 HB.out)
        clear BK131
        clear HB
        have BK131 := n0_
        have HB := n1_
        clear n0_ n1_
        refine start_ (n := 24) (S := fun w' => w'.cell? ⟨gb131, 0, none⟩ = some (.slice A130_0 ((rd_T41 l0 x7_1).f0).length c130_0) ∧ w'.cell? ⟨gb131, 1, none⟩ = some (.int .i64 ((rd_T41 l0 x7_1).f1))) (ds := []) #[false, false, false, false, false, false, false, false, false, false, false, false, false, false, false, false, false, false, false, false, false, false, false, false] (by kernel_rfl) rfl rfl ⟨(blk_cell BK131.out 0).trans rfl, (blk_cell BK131.out 1).trans rfl⟩ (fun hHeld => ?_); refine with_tabW bag_Valid.tab4 bag_Valid.bits4 (fun HT_ HW_ => ?_)
        generalize w10.drew = w11 at BK131 HB hHeld ⊢
        refine ta (i := 0) (N := some 12) (bl 24 1) (take_ofW HT_.out HW_.out (by kernel_rfl)) hHeld ?_
        refine one_ (i := 1) (N := some 13) (bl 24 3) rfl rfl (one_of HT_.out (by kernel_rfl)) (by decide) (fun K hK => ?_)
        refine goes_ Try.func46 (by kernel_rfl) rfl #[.agg #[.slice A130_0 ((rd_T41 l0 x7_1).f0).length c130_0, .int .i64 ((rd_T41 l0 x7_1).f1)]] (by rfl) rfl rfl (by (try simp only [List.map_toArray, List.map_cons, List.map_nil]); first | done | rfl | (simp only [List.length_drop, List.length_take]; rfl)) ?_
        with_reducible refine (bag_entryFits.calls k1 _ _ ((rd_T41 l0 x7_1).f0) ((rd_T41 l0 x7_1).f1) true _ ?side1 ?side2 A5.out).mono ?_
        (case side1 => repeat (first | exact (Kd.C_below HR130_0.out HB.out) | (with_reducible refine Kd.C_alloc ?_ _) | (with_reducible refine Kd.C_drewN ?_ _) | (with_reducible refine Kd.C_drew ?_)))
        (case side2 => exact HC130_0.out)
        rintro e w12 ⟨rfl, hb⟩
        refine ⟨_, rfl, ?_⟩
        have n0_ := Aside0.mk (blk_below (g := gb131) (o := .cells #[.slice A130_0 ((rd_T41 l0 x7_1).f0).length c130_0, .int .i64 ((rd_T41 l0 x7_1).f1)] 41 (0, 0)) (by (with_reducible repeat (first | refine blk_drewN ?_ _ | refine blk_drew ?_ | refine blk_alloc ?_ _)); exact BK131.out) hb)
        have n1_ := Aside0.mk (below_step (by repeat (first | (with_reducible first | exact HB.out | apply below_alloc | apply pw_below_drewN | apply below_drew1 | refine below_set ?_ GE131.out) | exact HB.out)) hb)
        clear BK131
        clear HB
        have BK131 := n0_
        have HB := n1_
        clear n0_ n1_
        (try clear hb)
        (try clear hb2)
        (try clear hk)
        (try clear hi)
        refine hK.out _ _ ⟨(blk_cell BK131.out 0).trans rfl, (blk_cell BK131.out 1).trans rfl⟩ (fun hHeld => ?_)
        clear hK K
        refine norm_ (a' := ?_) ?_ ?_
        rotate_left
        ·show Act.put _ (some 13) _ = _
         simp only [Act.put, List.setIfInBounds_toArray, List.set_cons_zero, List.set_cons_succ, i64_w, i32_w]
         rfl
        refine pu (i := 2) (N := some 14) (bl 24 7) (any_of HT_.out (by kernel_rfl)) ?_
        refine pu (i := 3) (N := some 15) (bl 24 15) (any_of HT_.out (by kernel_rfl)) ?_
        refine pu (i := 4) (N := some 16) (bl 24 31) (any_of HT_.out (by kernel_rfl)) ?_
        refine ta (i := 5) (N := some 17) (bl 24 63) (take_ofW HT_.out HW_.out (by kernel_rfl)) hHeld ?_
        refine pu (i := 6) (N := some 18) (bl 24 127) (any_of HT_.out (by kernel_rfl)) ?_
        refine pu (i := 7) (N := some 19) (bl 24 255) (any_of HT_.out (by kernel_rfl)) ?_
        refine pu (i := 8) (N := some 20) (bl 24 511) (any_of HT_.out (by kernel_rfl)) ?_
        refine po (i := 9) (N := some 21) (bl 24 1023) (any_of HT_.out (by kernel_rfl)) ?_
        refine po (i := 10) (N := some 22) (bl 24 2047) (any_of HT_.out (by kernel_rfl)) ?_
        refine po (i := 11) (N := some 23) (bl 24 4095) (any_of HT_.out (by kernel_rfl)) ?_
        refine po (i := 12) (N := some 24) (bl 24 8191) (any_of HT_.out (by kernel_rfl)) ?_
        refine po (i := 13) (N := some 25) (bl 24 16383) (any_of HT_.out (by kernel_rfl)) ?_
        refine po (i := 14) (N := some 26) (bl 24 32767) (any_of HT_.out (by kernel_rfl)) ?_
        refine po (i := 15) (N := some 27) (bl 24 65535) (any_of HT_.out (by kernel_rfl)) ?_
        refine po (i := 16) (N := some 28) (bl 24 131071) (any_of HT_.out (by kernel_rfl)) ?_
        refine po (i := 17) (N := some 29) (bl 24 262143) (any_of HT_.out (by kernel_rfl)) ?_
        refine po (i := 18) (N := some 30) (bl 24 524287) (any_of HT_.out (by kernel_rfl)) ?_
        refine po (i := 19) (N := some 31) (bl 24 1048575) (any_of HT_.out (by kernel_rfl)) ?_
        refine po (i := 20) (N := some 32) (bl 24 2097151) (any_of HT_.out (by kernel_rfl)) ?_
        refine po (i := 21) (N := some 33) (bl 24 4194303) (any_of HT_.out (by kernel_rfl)) ?_
        refine po (i := 22) (N := some 34) (bl 24 8388607) (any_of HT_.out (by kernel_rfl)) ?_
        refine pu (i := 23) (N := some 35) (bl 24 16777215) (any_of HT_.out (by kernel_rfl)) ?_
        refine done_ (done_of HT_.out (by kernel_rfl)) ?_
        try go_wp2
        go_ret
        exact ⟨by first | rfl | (simp [errW_none, errW_some] <;> rfl) | (simp [*, errW_none, errW_some] <;> rfl), by repeat (first | (with_reducible first | exact HB.out | apply below_alloc | apply pw_below_drewN | apply below_drew1 | refine below_set ?_ GE131.out) | exact HB.out)⟩
       ·rw [if_neg c7] at H
        have c7b0 : (((rd_T41 l0 x7_1).f1) == 0) = false := beq_eq_false_iff_ne.mpr c7
        have c7b1 : (((rd_T41 l0 x7_1).f1) != 0) = true := bne_iff_ne.mpr c7
        by_cases c13 : x7_1 > 0
        ·rw [if_pos c13] at H
         have c13b0 : decide (0 < x7_1) = true := decide_eq_true c13
         clear c13
         obtain ⟨ji14, hji14⟩ : ∃ j_ : Int, (wrap64 (x7_1 - 1)) = j_ := ⟨_, rfl⟩
         replace H : (if 0 ≤ (ji14) then (if (ji14) < (l0.length : Int) then ((value_CompareRows.f ((rd_T41 l0 (ji14)).f0) ((rd_T41 l0 x7_1).f0)).bind fun t134 => (if t134 ≥ 0 then (some false) else (bag_Valid.l0 k1 l0 l0 (l0.length : Int) (wrap64 (x7_1 + 1))))) else (none)) else (none)) = some r := by first | (rw [hji14] at H; exact H) | (simp only [hji14] at H ⊢; exact H)
         (try rw [hji14] at A5)
         have hji14w : (IntKind.i64.wrap (x7_1 - 1)) = ji14 := (i64_w _).trans hji14
         by_cases c15 : 0 ≤ (ji14)
         ·rw [if_pos c15] at H
          have c15b0 : decide (0 ≤ (ji14)) = true := decide_eq_true c15
          clear c15
          by_cases c16 : (ji14) < (l0.length : Int)
          ·rw [if_pos c16] at H
           have c16b0 : decide ((ji14) < (l0.length : Int)) = true := decide_eq_true c16
           clear c16
           replace H := Option.bind_eq_some_iff.mp H
           obtain ⟨t134, A170, H⟩ := H
           replace H : (if t134 ≥ 0 then (some false) else (bag_Valid.l0 k1 l0 l0 (l0.length : Int) (wrap64 (x7_1 + 1)))) = some r := H
           have A17 := Aside0.mk A170
           clear A170
           by_cases c18 : t134 ≥ 0
           ·rw [if_pos c18] at H
            have c18b0 : decide (0 ≤ t134) = true := decide_eq_true c18
            clear c18
            obtain rfl := Option.some.inj H
            have p130 : 0 ≤ (x7_1 : Int) := of_decide_eq_true (by first | (with_reducible assumption) | assumption)
            have q130 : x7_1 < (l0.length : Int) := of_decide_eq_true (by first | (with_reducible assumption) | assumption)
            obtain ⟨ad130, A130_0, c130_0, e130, hx130_0, hx130_1, hl130_0, hi130_0⟩ := at_T41 HR0.out x7_1 p130 q130
            cases e130
            replace hx130_0 := (HB.out.cell (World.block_lt_of_cell? w _ hx130_0)).trans hx130_0
            replace hx130_1 := (HB.out.cell (World.block_lt_of_cell? w _ hx130_1)).trans hx130_1
            have HR130_0 := Aside0.mk hi130_0
            have HC130_0 := Aside0.mk hl130_0
            clear hi130_0 hl130_0
            replace p130 := eq_true p130
            replace q130 := eq_true q130
            try go_wp2_with (first | ((with_reducible refine gate_dst (N := 4) rfl ?_); refine box_event ?hg (N := 4) ?hd (cs := #[.slice none 0 0, .int .i64 0]) (t := 41) ?hr ?_; (case hd => rfl); (case hg => rfl); (case hr => first | (go_simp; done) | (go_simp; rfl)); intro gb131 hg w19 hbox hb; have n0_ := Aside0.mk (below_step (by repeat (first | (with_reducible first | exact HB.out | apply below_alloc | apply pw_below_drewN | apply below_drew1) | exact HB.out)) hb); have n1_ := Aside0.mk (hbox); have n2_ := Aside0.mk ((by rw [hg]; exact (below_size (by repeat (first | (with_reducible first | exact HB.out | apply below_alloc | apply pw_below_drewN | apply below_drew1) | exact HB.out))) : w.heap.size ≤ gb131)); have n3_ := Aside0.mk ((by rw [hg]; exact (below_size (by repeat (first | (with_reducible first | exact HB.out | apply below_alloc | apply pw_below_drewN | apply below_drew1) | exact HB.out))) : w.heap.size ≤ gb131)); clear HB; have HB := n0_; have BK131 := n1_; have GW131 := n2_; have GE131 := n3_; clear n0_ n1_ n2_ n3_; clear hb hbox hg; have hcz20_0 : w19.cell? ⟨gb131, 0, none⟩ = some (.slice none 0 0) := (blk_cell BK131.out 0).trans rfl; have hcz20_1 : w19.cell? ⟨gb131, 1, none⟩ = some (.int .i64 0) := (blk_cell BK131.out 1).trans rfl; have hfz20_0 := blk_frozen BK131.out 0; have hfz20_1 := blk_frozen BK131.out 1))
            have n0_ : Aside0 (((w19.setCell ⟨gb131, 0, none⟩ (.slice A130_0 ((rd_T41 l0 x7_1).f0).length c130_0)).setCell ⟨gb131, 1, none⟩ (.int .i64 ((rd_T41 l0 x7_1).f1))).heap[gb131]? = some (.cells #[.slice A130_0 ((rd_T41 l0 x7_1).f0).length c130_0, .int .i64 ((rd_T41 l0 x7_1).f1)] 41 (0, 0))) := ⟨by (with_reducible repeat (first | refine blk_drewN ?_ _ | refine blk_drew ?_ | refine blk_alloc ?_ _)); refine blk_put (cs := #[.slice A130_0 ((rd_T41 l0 x7_1).f0).length c130_0, .int .i64 0]) ?_ 1 _ rfl; (with_reducible repeat (first | refine blk_drewN ?_ _ | refine blk_drew ?_ | refine blk_alloc ?_ _)); refine blk_put (cs := #[.slice none 0 0, .int .i64 0]) ?_ 0 _ rfl; (with_reducible repeat (first | refine blk_drewN ?_ _ | refine blk_drew ?_ | refine blk_alloc ?_ _)); exact BK131.out⟩
            have n1_ : Aside0 (Below w.heap.size w ((w19.setCell ⟨gb131, 0, none⟩ (.slice A130_0 ((rd_T41 l0 x7_1).f0).length c130_0)).setCell ⟨gb131, 1, none⟩ (.int .i64 ((rd_T41 l0 x7_1).f1)))) := ⟨by repeat (first | (with_reducible first | exact HB.out | apply below_alloc | apply pw_below_drewN | apply below_drew1 | refine below_set ?_ GE131.out) | exact HB.out)⟩
            (try clear BK131)
            (try clear HB)
            generalize ((w19.setCell ⟨gb131, 0, none⟩ (.slice A130_0 ((rd_T41 l0 x7_1).f0).length c130_0)).setCell ⟨gb131, 1, none⟩ (.int .i64 ((rd_T41 l0 x7_1).f1))) = w21 at n0_ n1_ ⊢
            have BK131 := n0_
            have HB := n1_
            clear n0_ n1_
            have n0_ := Aside0.mk (blk_drew BK131.out)
            have n1_ := Aside0.mk (below_drew1 HB.out)
            clear BK131
            clear HB
            have BK131 := n0_
            have HB := n1_
            clear n0_ n1_
            have p133 : 0 ≤ ((ji14) : Int) := of_decide_eq_true (by first | (with_reducible assumption) | assumption)
            have q133 : (ji14) < (l0.length : Int) := of_decide_eq_true (by first | (with_reducible assumption) | assumption)
            obtain ⟨ad133, A133_0, c133_0, e133, hx133_0, hx133_1, hl133_0, hi133_0⟩ := at_T41 HR0.out (ji14) p133 q133
            have hw133_1 := hx133_1
            have hw133_0 := hx133_0
            obtain rfl : ad130 = ad133 := (by injection e133)
            replace hx133_0 := (HB.out.cell (World.block_lt_of_cell? w _ hx133_0)).trans hx133_0
            replace hx133_1 := (HB.out.cell (World.block_lt_of_cell? w _ hx133_1)).trans hx133_1
            have HR133_0 := Aside0.mk hi133_0
            have HC133_0 := Aside0.mk hl133_0
            clear hi133_0 hl133_0
            replace p133 := eq_true p133
            replace q133 := eq_true q133
            refine start_ (n := 24) (S := fun w' => w'.cell? ⟨gb131, 0, none⟩ = some (.slice A130_0 ((rd_T41 l0 x7_1).f0).length c130_0) ∧ w'.cell? ⟨gb131, 1, none⟩ = some (.int .i64 ((rd_T41 l0 x7_1).f1)) ∧ w'.cell? (ad130.add (((ji14)).toNat * 2)) = some (.slice A133_0 ((rd_T41 l0 (ji14)).f0).length c133_0) ∧ w'.cell? ⟨(ad130.add (((ji14)).toNat * 2)).block, (ad130.add (((ji14)).toNat * 2)).off + 1, none⟩ = some (.int .i64 ((rd_T41 l0 (ji14)).f1))) (ds := []) #[false, false, false, false, false, false, false, false, false, false, false, false, false, false, false, false, false, false, false, false, false, false, false, false] (by kernel_rfl) rfl rfl ⟨(blk_cell BK131.out 0).trans rfl, (blk_cell BK131.out 1).trans rfl, ((HB.out.cell (World.block_lt_of_cell? w _ hw133_0)).trans hw133_0), ((HB.out.cell (World.block_lt_of_cell? w _ hw133_1)).trans hw133_1)⟩ (fun hHeld => ?_); refine with_tabW bag_Valid.tab4 bag_Valid.bits4 (fun HT_ HW_ => ?_)
            generalize w21.drew = w22 at BK131 HB HR133_0 hx133_0 hx133_1 hHeld ⊢
            refine ta (i := 0) (N := some 12) (bl 24 1) (take_ofW HT_.out HW_.out (by kernel_rfl)) hHeld ?_
            refine one_ (i := 1) (N := some 13) (bl 24 3) rfl rfl (one_of HT_.out (by kernel_rfl)) (by decide) (fun K hK => ?_)
            refine goes_ Try.func46 (by kernel_rfl) rfl #[.agg #[.slice A130_0 ((rd_T41 l0 x7_1).f0).length c130_0, .int .i64 ((rd_T41 l0 x7_1).f1)]] (by rfl) rfl rfl (by (try simp only [List.map_toArray, List.map_cons, List.map_nil]); first | done | rfl | (simp only [List.length_drop, List.length_take]; rfl)) ?_
            with_reducible refine (bag_entryFits.calls k1 _ _ ((rd_T41 l0 x7_1).f0) ((rd_T41 l0 x7_1).f1) true _ ?side1 ?side2 A5.out).mono ?_
            (case side1 => repeat (first | exact (Kd.C_below HR130_0.out HB.out) | (with_reducible refine Kd.C_alloc ?_ _) | (with_reducible refine Kd.C_drewN ?_ _) | (with_reducible refine Kd.C_drew ?_)))
            (case side2 => exact HC130_0.out)
            rintro e w23 ⟨rfl, hb⟩
            refine ⟨_, rfl, ?_⟩
            have n0_ := Aside0.mk (blk_below (g := gb131) (o := .cells #[.slice A130_0 ((rd_T41 l0 x7_1).f0).length c130_0, .int .i64 ((rd_T41 l0 x7_1).f1)] 41 (0, 0)) (by (with_reducible repeat (first | refine blk_drewN ?_ _ | refine blk_drew ?_ | refine blk_alloc ?_ _)); exact BK131.out) hb)
            have n1_ := Aside0.mk (below_step (by repeat (first | (with_reducible first | exact HB.out | apply below_alloc | apply pw_below_drewN | apply below_drew1 | refine below_set ?_ GE131.out) | exact HB.out)) hb)
            clear BK131
            clear HB
            have BK131 := n0_
            have HB := n1_
            clear n0_ n1_
            (try clear hb)
            (try clear hb2)
            (try clear hk)
            (try clear hi)
            refine hK.out _ _ ⟨(blk_cell BK131.out 0).trans rfl, (blk_cell BK131.out 1).trans rfl, ((HB.out.cell (World.block_lt_of_cell? w _ hw133_0)).trans hw133_0), ((HB.out.cell (World.block_lt_of_cell? w _ hw133_1)).trans hw133_1)⟩ (fun hHeld => ?_)
            clear hK K
            refine norm_ (a' := ?_) ?_ ?_
            rotate_left
            ·show Act.put _ (some 13) _ = _
             simp only [Act.put, List.setIfInBounds_toArray, List.set_cons_zero, List.set_cons_succ, i64_w, i32_w]
             rfl
            refine pu (i := 2) (N := some 14) (bl 24 7) (any_of HT_.out (by kernel_rfl)) ?_
            refine pu (i := 3) (N := some 15) (bl 24 15) (any_of HT_.out (by kernel_rfl)) ?_
            refine pu (i := 4) (N := some 16) (bl 24 31) (any_of HT_.out (by kernel_rfl)) ?_
            refine ta (i := 5) (N := some 17) (bl 24 63) (take_ofW HT_.out HW_.out (by kernel_rfl)) hHeld ?_
            refine pu (i := 6) (N := some 18) (bl 24 127) (any_of HT_.out (by kernel_rfl)) ?_
            refine pu (i := 7) (N := some 19) (bl 24 255) (any_of HT_.out (by kernel_rfl)) ?_
            refine pu (i := 8) (N := some 20) (bl 24 511) (any_of HT_.out (by kernel_rfl)) ?_
            refine pu (i := 9) (N := some 21) (bl 24 1023) (any_of HT_.out (by kernel_rfl)) ?_
            refine pu (i := 10) (N := some 22) (bl 24 2047) (any_of HT_.out (by kernel_rfl)) ?_
            refine pu (i := 11) (N := some 23) (bl 24 4095) (any_of HT_.out (by kernel_rfl)) ?_
            refine pu (i := 12) (N := some 24) (bl 24 8191) (any_of HT_.out (by kernel_rfl)) ?_
            refine pu (i := 13) (N := some 25) (bl 24 16383) (any_of HT_.out (by kernel_rfl)) ?_
            refine pu (i := 14) (N := some 26) (bl 24 32767) (any_of HT_.out (by kernel_rfl)) ?_
            refine pu (i := 15) (N := some 27) (bl 24 65535) (any_of HT_.out (by kernel_rfl)) ?_
            refine pu (i := 16) (N := some 28) (bl 24 131071) (any_of HT_.out (by kernel_rfl)) ?_
            refine pu (i := 18) (N := some 30) (bl 24 393215) (any_of HT_.out (by kernel_rfl)) ?_
            refine ta (i := 17) (N := some 29) (bl 24 524287) (take_ofW HT_.out HW_.out (by kernel_rfl)) hHeld ?_
            refine ta (i := 19) (N := some 31) (bl 24 1048575) (take_ofW HT_.out HW_.out (by kernel_rfl)) hHeld ?_
            refine one_ (i := 20) (N := some 32) (bl 24 2097151) rfl rfl (one_of HT_.out (by kernel_rfl)) (by decide) (fun K hK => ?_)
            refine goes_ Try.func41 (by kernel_rfl) rfl #[.slice A133_0 ((rd_T41 l0 (ji14)).f0).length c133_0, .slice A130_0 ((rd_T41 l0 x7_1).f0).length c130_0] (by rfl) rfl rfl (by (try simp only [List.map_toArray, List.map_cons, List.map_nil]); first | done | (simp only [hji14]; rfl) | rfl | (simp only [List.length_drop, List.length_take]; rfl)) ?_
            with_reducible refine (value_CompareRows.calls _ _ ((rd_T41 l0 (ji14)).f0) _ _ ((rd_T41 l0 x7_1).f0) t134 _ ?side1 ?side2 ?side3 ?side4 A17.out).mono ?_
            (case side1 => repeat (first | exact (Kd.C_below HR133_0.out HB.out) | (with_reducible refine Kd.C_alloc ?_ _) | (with_reducible refine Kd.C_drewN ?_ _) | (with_reducible refine Kd.C_drew ?_)))
            (case side2 => exact HC133_0.out)
            (case side3 => repeat (first | exact (Kd.C_below HR130_0.out HB.out) | (with_reducible refine Kd.C_alloc ?_ _) | (with_reducible refine Kd.C_drewN ?_ _) | (with_reducible refine Kd.C_drew ?_)))
            (case side4 => exact HC130_0.out)
            rintro e w24 ⟨rfl, hb⟩
            refine ⟨_, rfl, ?_⟩
            have n0_ := Aside0.mk (blk_below (g := gb131) (o := .cells #[.slice A130_0 ((rd_T41 l0 x7_1).f0).length c130_0, .int .i64 ((rd_T41 l0 x7_1).f1)] 41 (0, 0)) (by (with_reducible repeat (first | refine blk_drewN ?_ _ | refine blk_drew ?_ | refine blk_alloc ?_ _)); exact BK131.out) hb)
            have n1_ := Aside0.mk (below_step (by repeat (first | (with_reducible first | exact HB.out | apply below_alloc | apply pw_below_drewN | apply below_drew1 | refine below_set ?_ GE131.out) | exact HB.out)) hb)
            clear BK131
            clear HB
            have BK131 := n0_
            have HB := n1_
            clear n0_ n1_
            (try clear hb)
            (try clear hb2)
            (try clear hk)
            (try clear hi)
            refine hK.out _ _ ⟨(blk_cell BK131.out 0).trans rfl, (blk_cell BK131.out 1).trans rfl, ((HB.out.cell (World.block_lt_of_cell? w _ hw133_0)).trans hw133_0), ((HB.out.cell (World.block_lt_of_cell? w _ hw133_1)).trans hw133_1)⟩ (fun hHeld => ?_)
            clear hK K
            refine norm_ (a' := ?_) ?_ ?_
            rotate_left
            ·show Act.put _ (some 32) _ = _
             simp only [Act.put, List.setIfInBounds_toArray, List.set_cons_zero, List.set_cons_succ, i64_w, i32_w]
             rfl
            refine pu (i := 21) (N := some 33) (bl 24 4194303) (any_of HT_.out (by kernel_rfl)) ?_
            refine pu (i := 22) (N := some 34) (bl 24 8388607) (any_of HT_.out (by kernel_rfl)) ?_
            refine pu (i := 23) (N := some 35) (bl 24 16777215) (any_of HT_.out (by kernel_rfl)) ?_
            refine done_ (done_of HT_.out (by kernel_rfl)) ?_
            try go_wp2
            go_ret
            exact ⟨by first | rfl | (simp [errW_none, errW_some] <;> rfl) | (simp only [← hji14]; first | rfl | (simp [errW_none, errW_some] <;> rfl)) | (simp [*, errW_none, errW_some] <;> rfl), by repeat (first | (with_reducible first | exact HB.out | apply below_alloc | apply pw_below_drewN | apply below_drew1 | refine below_set ?_ GE131.out) | exact HB.out)⟩
           ·rw [if_neg c18] at H
            have c18b0 : decide (0 ≤ t134) = false := decide_eq_false c18
            clear c18
            have H' := Aside0.mk H
            clear H
            have p130 : 0 ≤ (x7_1 : Int) := of_decide_eq_true (by first | (with_reducible assumption) | assumption)
            have q130 : x7_1 < (l0.length : Int) := of_decide_eq_true (by first | (with_reducible assumption) | assumption)
            obtain ⟨ad130, A130_0, c130_0, e130, hx130_0, hx130_1, hl130_0, hi130_0⟩ := at_T41 HR0.out x7_1 p130 q130
            cases e130
            replace hx130_0 := (HB.out.cell (World.block_lt_of_cell? w _ hx130_0)).trans hx130_0
            replace hx130_1 := (HB.out.cell (World.block_lt_of_cell? w _ hx130_1)).trans hx130_1
            have HR130_0 := Aside0.mk hi130_0
            have HC130_0 := Aside0.mk hl130_0
            clear hi130_0 hl130_0
            replace p130 := eq_true p130
            replace q130 := eq_true q130
            try go_wp2_with (first | ((with_reducible refine gate_dst (N := 4) rfl ?_); refine box_event ?hg (N := 4) ?hd (cs := #[.slice none 0 0, .int .i64 0]) (t := 41) ?hr ?_; (case hd => rfl); (case hg => rfl); (case hr => first | (go_simp; done) | (go_simp; rfl)); intro gb131 hg w25 hbox hb; have n0_ := Aside0.mk (below_step (by repeat (first | (with_reducible first | exact HB.out | apply below_alloc | apply pw_below_drewN | apply below_drew1) | exact HB.out)) hb); have n1_ := Aside0.mk (hbox); have n2_ := Aside0.mk ((by rw [hg]; exact (below_size (by repeat (first | (with_reducible first | exact HB.out | apply below_alloc | apply pw_below_drewN | apply below_drew1) | exact HB.out))) : w.heap.size ≤ gb131)); have n3_ := Aside0.mk ((by rw [hg]; exact (below_size (by repeat (first | (with_reducible first | exact HB.out | apply below_alloc | apply pw_below_drewN | apply below_drew1) | exact HB.out))) : w.heap.size ≤ gb131)); clear HB; have HB := n0_; have BK131 := n1_; have GW131 := n2_; have GE131 := n3_; clear n0_ n1_ n2_ n3_; clear hb hbox hg; have hcz26_0 : w25.cell? ⟨gb131, 0, none⟩ = some (.slice none 0 0) := (blk_cell BK131.out 0).trans rfl; have hcz26_1 : w25.cell? ⟨gb131, 1, none⟩ = some (.int .i64 0) := (blk_cell BK131.out 1).trans rfl; have hfz26_0 := blk_frozen BK131.out 0; have hfz26_1 := blk_frozen BK131.out 1))
            have n0_ : Aside0 (((w25.setCell ⟨gb131, 0, none⟩ (.slice A130_0 ((rd_T41 l0 x7_1).f0).length c130_0)).setCell ⟨gb131, 1, none⟩ (.int .i64 ((rd_T41 l0 x7_1).f1))).heap[gb131]? = some (.cells #[.slice A130_0 ((rd_T41 l0 x7_1).f0).length c130_0, .int .i64 ((rd_T41 l0 x7_1).f1)] 41 (0, 0))) := ⟨by (with_reducible repeat (first | refine blk_drewN ?_ _ | refine blk_drew ?_ | refine blk_alloc ?_ _)); refine blk_put (cs := #[.slice A130_0 ((rd_T41 l0 x7_1).f0).length c130_0, .int .i64 0]) ?_ 1 _ rfl; (with_reducible repeat (first | refine blk_drewN ?_ _ | refine blk_drew ?_ | refine blk_alloc ?_ _)); refine blk_put (cs := #[.slice none 0 0, .int .i64 0]) ?_ 0 _ rfl; (with_reducible repeat (first | refine blk_drewN ?_ _ | refine blk_drew ?_ | refine blk_alloc ?_ _)); exact BK131.out⟩
            have n1_ : Aside0 (Below w.heap.size w ((w25.setCell ⟨gb131, 0, none⟩ (.slice A130_0 ((rd_T41 l0 x7_1).f0).length c130_0)).setCell ⟨gb131, 1, none⟩ (.int .i64 ((rd_T41 l0 x7_1).f1)))) := ⟨by repeat (first | (with_reducible first | exact HB.out | apply below_alloc | apply pw_below_drewN | apply below_drew1 | refine below_set ?_ GE131.out) | exact HB.out)⟩
            (try clear BK131)
            (try clear HB)
            generalize ((w25.setCell ⟨gb131, 0, none⟩ (.slice A130_0 ((rd_T41 l0 x7_1).f0).length c130_0)).setCell ⟨gb131, 1, none⟩ (.int .i64 ((rd_T41 l0 x7_1).f1))) = w27 at n0_ n1_ ⊢
            have BK131 := n0_
            have HB := n1_
            clear n0_ n1_
            have n0_ := Aside0.mk (blk_drew BK131.out)
            have n1_ := Aside0.mk (below_drew1 HB.out)
            clear BK131
            clear HB
            have BK131 := n0_
            have HB := n1_
            clear n0_ n1_
            have p133 : 0 ≤ ((ji14) : Int) := of_decide_eq_true (by first | (with_reducible assumption) | assumption)
            have q133 : (ji14) < (l0.length : Int) := of_decide_eq_true (by first | (with_reducible assumption) | assumption)
            obtain ⟨ad133, A133_0, c133_0, e133, hx133_0, hx133_1, hl133_0, hi133_0⟩ := at_T41 HR0.out (ji14) p133 q133
            have hw133_1 := hx133_1
            have hw133_0 := hx133_0
            obtain rfl : ad130 = ad133 := (by injection e133)
            replace hx133_0 := (HB.out.cell (World.block_lt_of_cell? w _ hx133_0)).trans hx133_0
            replace hx133_1 := (HB.out.cell (World.block_lt_of_cell? w _ hx133_1)).trans hx133_1
            have HR133_0 := Aside0.mk hi133_0
            have HC133_0 := Aside0.mk hl133_0
            clear hi133_0 hl133_0
            replace p133 := eq_true p133
            replace q133 := eq_true q133
            refine start_ (n := 24) (S := fun w' => w'.cell? ⟨gb131, 0, none⟩ = some (.slice A130_0 ((rd_T41 l0 x7_1).f0).length c130_0) ∧ w'.cell? ⟨gb131, 1, none⟩ = some (.int .i64 ((rd_T41 l0 x7_1).f1)) ∧ w'.cell? (ad130.add (((ji14)).toNat * 2)) = some (.slice A133_0 ((rd_T41 l0 (ji14)).f0).length c133_0) ∧ w'.cell? ⟨(ad130.add (((ji14)).toNat * 2)).block, (ad130.add (((ji14)).toNat * 2)).off + 1, none⟩ = some (.int .i64 ((rd_T41 l0 (ji14)).f1))) (ds := []) #[false, false, false, false, false, false, false, false, false, false, false, false, false, false, false, false, false, false, false, false, false, false, false, false] (by kernel_rfl) rfl rfl ⟨(blk_cell BK131.out 0).trans rfl, (blk_cell BK131.out 1).trans rfl, ((HB.out.cell (World.block_lt_of_cell? w _ hw133_0)).trans hw133_0), ((HB.out.cell (World.block_lt_of_cell? w _ hw133_1)).trans hw133_1)⟩ (fun hHeld => ?_); refine with_tabW bag_Valid.tab4 bag_Valid.bits4 (fun HT_ HW_ => ?_)
            generalize w27.drew = w28 at BK131 HB HR133_0 hx133_0 hx133_1 hHeld ⊢
            refine ta (i := 0) (N := some 12) (bl 24 1) (take_ofW HT_.out HW_.out (by kernel_rfl)) hHeld ?_
            refine one_ (i := 1) (N := some 13) (bl 24 3) rfl rfl (one_of HT_.out (by kernel_rfl)) (by decide) (fun K hK => ?_)
            refine goes_ Try.func46 (by kernel_rfl) rfl #[.agg #[.slice A130_0 ((rd_T41 l0 x7_1).f0).length c130_0, .int .i64 ((rd_T41 l0 x7_1).f1)]] (by rfl) rfl rfl (by (try simp only [List.map_toArray, List.map_cons, List.map_nil]); first | done | rfl | (simp only [List.length_drop, List.length_take]; rfl)) ?_
            with_reducible refine (bag_entryFits.calls k1 _ _ ((rd_T41 l0 x7_1).f0) ((rd_T41 l0 x7_1).f1) true _ ?side1 ?side2 A5.out).mono ?_
            (case side1 => repeat (first | exact (Kd.C_below HR130_0.out HB.out) | (with_reducible refine Kd.C_alloc ?_ _) | (with_reducible refine Kd.C_drewN ?_ _) | (with_reducible refine Kd.C_drew ?_)))
            (case side2 => exact HC130_0.out)
            rintro e w29 ⟨rfl, hb⟩
            refine ⟨_, rfl, ?_⟩
            have n0_ := Aside0.mk (blk_below (g := gb131) (o := .cells #[.slice A130_0 ((rd_T41 l0 x7_1).f0).length c130_0, .int .i64 ((rd_T41 l0 x7_1).f1)] 41 (0, 0)) (by (with_reducible repeat (first | refine blk_drewN ?_ _ | refine blk_drew ?_ | refine blk_alloc ?_ _)); exact BK131.out) hb)
            have n1_ := Aside0.mk (below_step (by repeat (first | (with_reducible first | exact HB.out | apply below_alloc | apply pw_below_drewN | apply below_drew1 | refine below_set ?_ GE131.out) | exact HB.out)) hb)
            clear BK131
            clear HB
            have BK131 := n0_
            have HB := n1_
            clear n0_ n1_
            (try clear hb)
            (try clear hb2)
            (try clear hk)
            (try clear hi)
            refine hK.out _ _ ⟨(blk_cell BK131.out 0).trans rfl, (blk_cell BK131.out 1).trans rfl, ((HB.out.cell (World.block_lt_of_cell? w _ hw133_0)).trans hw133_0), ((HB.out.cell (World.block_lt_of_cell? w _ hw133_1)).trans hw133_1)⟩ (fun hHeld => ?_)
            clear hK K
            refine norm_ (a' := ?_) ?_ ?_
            rotate_left
            ·show Act.put _ (some 13) _ = _
             simp only [Act.put, List.setIfInBounds_toArray, List.set_cons_zero, List.set_cons_succ, i64_w, i32_w]
             rfl
            refine pu (i := 2) (N := some 14) (bl 24 7) (any_of HT_.out (by kernel_rfl)) ?_
            refine pu (i := 3) (N := some 15) (bl 24 15) (any_of HT_.out (by kernel_rfl)) ?_
            refine pu (i := 4) (N := some 16) (bl 24 31) (any_of HT_.out (by kernel_rfl)) ?_
            refine ta (i := 5) (N := some 17) (bl 24 63) (take_ofW HT_.out HW_.out (by kernel_rfl)) hHeld ?_
            refine pu (i := 6) (N := some 18) (bl 24 127) (any_of HT_.out (by kernel_rfl)) ?_
            refine pu (i := 7) (N := some 19) (bl 24 255) (any_of HT_.out (by kernel_rfl)) ?_
            refine pu (i := 8) (N := some 20) (bl 24 511) (any_of HT_.out (by kernel_rfl)) ?_
            refine pu (i := 9) (N := some 21) (bl 24 1023) (any_of HT_.out (by kernel_rfl)) ?_
            refine pu (i := 10) (N := some 22) (bl 24 2047) (any_of HT_.out (by kernel_rfl)) ?_
            refine pu (i := 11) (N := some 23) (bl 24 4095) (any_of HT_.out (by kernel_rfl)) ?_
            refine pu (i := 12) (N := some 24) (bl 24 8191) (any_of HT_.out (by kernel_rfl)) ?_
            refine pu (i := 13) (N := some 25) (bl 24 16383) (any_of HT_.out (by kernel_rfl)) ?_
            refine pu (i := 14) (N := some 26) (bl 24 32767) (any_of HT_.out (by kernel_rfl)) ?_
            refine pu (i := 15) (N := some 27) (bl 24 65535) (any_of HT_.out (by kernel_rfl)) ?_
            refine pu (i := 16) (N := some 28) (bl 24 131071) (any_of HT_.out (by kernel_rfl)) ?_
            refine pu (i := 18) (N := some 30) (bl 24 393215) (any_of HT_.out (by kernel_rfl)) ?_
            refine ta (i := 17) (N := some 29) (bl 24 524287) (take_ofW HT_.out HW_.out (by kernel_rfl)) hHeld ?_
            refine ta (i := 19) (N := some 31) (bl 24 1048575) (take_ofW HT_.out HW_.out (by kernel_rfl)) hHeld ?_
            refine one_ (i := 20) (N := some 32) (bl 24 2097151) rfl rfl (one_of HT_.out (by kernel_rfl)) (by decide) (fun K hK => ?_)
            refine goes_ Try.func41 (by kernel_rfl) rfl #[.slice A133_0 ((rd_T41 l0 (ji14)).f0).length c133_0, .slice A130_0 ((rd_T41 l0 x7_1).f0).length c130_0] (by rfl) rfl rfl (by (try simp only [List.map_toArray, List.map_cons, List.map_nil]); first | done | (simp only [hji14]; rfl) | rfl | (simp only [List.length_drop, List.length_take]; rfl)) ?_
            with_reducible refine (value_CompareRows.calls _ _ ((rd_T41 l0 (ji14)).f0) _ _ ((rd_T41 l0 x7_1).f0) t134 _ ?side1 ?side2 ?side3 ?side4 A17.out).mono ?_
            (case side1 => repeat (first | exact (Kd.C_below HR133_0.out HB.out) | (with_reducible refine Kd.C_alloc ?_ _) | (with_reducible refine Kd.C_drewN ?_ _) | (with_reducible refine Kd.C_drew ?_)))
            (case side2 => exact HC133_0.out)
            (case side3 => repeat (first | exact (Kd.C_below HR130_0.out HB.out) | (with_reducible refine Kd.C_alloc ?_ _) | (with_reducible refine Kd.C_drewN ?_ _) | (with_reducible refine Kd.C_drew ?_)))
            (case side4 => exact HC130_0.out)
            rintro e w30 ⟨rfl, hb⟩
            refine ⟨_, rfl, ?_⟩
            have n0_ := Aside0.mk (blk_below (g := gb131) (o := .cells #[.slice A130_0 ((rd_T41 l0 x7_1).f0).length c130_0, .int .i64 ((rd_T41 l0 x7_1).f1)] 41 (0, 0)) (by (with_reducible repeat (first | refine blk_drewN ?_ _ | refine blk_drew ?_ | refine blk_alloc ?_ _)); exact BK131.out) hb)
            have n1_ := Aside0.mk (below_step (by repeat (first | (with_reducible first | exact HB.out | apply below_alloc | apply pw_below_drewN | apply below_drew1 | refine below_set ?_ GE131.out) | exact HB.out)) hb)
            clear BK131
            clear HB
            have BK131 := n0_
            have HB := n1_
            clear n0_ n1_
            (try clear hb)
            (try clear hb2)
            (try clear hk)
            (try clear hi)
            refine hK.out _ _ ⟨(blk_cell BK131.out 0).trans rfl, (blk_cell BK131.out 1).trans rfl, ((HB.out.cell (World.block_lt_of_cell? w _ hw133_0)).trans hw133_0), ((HB.out.cell (World.block_lt_of_cell? w _ hw133_1)).trans hw133_1)⟩ (fun hHeld => ?_)
            clear hK K
            refine norm_ (a' := ?_) ?_ ?_
            rotate_left
            ·show Act.put _ (some 32) _ = _
             simp only [Act.put, List.setIfInBounds_toArray, List.set_cons_zero, List.set_cons_succ, i64_w, i32_w]
             rfl
            refine pu (i := 21) (N := some 33) (bl 24 4194303) (any_of HT_.out (by kernel_rfl)) ?_
            refine pu (i := 22) (N := some 34) (bl 24 8388607) (any_of HT_.out (by kernel_rfl)) ?_
            refine pu (i := 23) (N := some 35) (bl 24 16777215) (any_of HT_.out (by kernel_rfl)) ?_
            refine done_ (done_of HT_.out (by kernel_rfl)) ?_
            try go_wp2
            go_roundg k1
            case measure => have := HK1.out; omega
            case rel => exact ⟨(wrap64 (x7_1 + 1)), (by first | rfl | (simp; done) | (simp [*]; done)), H', ⟨by have := HK1.out; omega⟩, ⟨by repeat (first | (with_reducible first | exact HB.out | apply below_alloc | apply pw_below_drewN | apply below_drew1 | refine below_set ?_ GE131.out) | exact HB.out)⟩⟩
          ·rw [if_neg c16] at H
           exact absurd H (by simp)
         ·rw [if_neg c15] at H
          exact absurd H (by simp)
        ·rw [if_neg c13] at H
         have c13b0 : decide (0 < x7_1) = false := decide_eq_false c13
         clear c13
         have H' := Aside0.mk H
         clear H
         have p130 : 0 ≤ (x7_1 : Int) := of_decide_eq_true (by first | (with_reducible assumption) | assumption)
         have q130 : x7_1 < (l0.length : Int) := of_decide_eq_true (by first | (with_reducible assumption) | assumption)
         obtain ⟨ad130, A130_0, c130_0, e130, hx130_0, hx130_1, hl130_0, hi130_0⟩ := at_T41 HR0.out x7_1 p130 q130
         cases e130
         replace hx130_0 := (HB.out.cell (World.block_lt_of_cell? w _ hx130_0)).trans hx130_0
         replace hx130_1 := (HB.out.cell (World.block_lt_of_cell? w _ hx130_1)).trans hx130_1
         have HR130_0 := Aside0.mk hi130_0
         have HC130_0 := Aside0.mk hl130_0
         clear hi130_0 hl130_0
         replace p130 := eq_true p130
         replace q130 := eq_true q130
         try go_wp2_with (first | ((with_reducible refine gate_dst (N := 4) rfl ?_); refine box_event ?hg (N := 4) ?hd (cs := #[.slice none 0 0, .int .i64 0]) (t := 41) ?hr ?_; (case hd => rfl); (case hg => rfl); (case hr => first | (go_simp; done) | (go_simp; rfl)); intro gb131 hg w31 hbox hb; have n0_ := Aside0.mk (below_step (by repeat (first | (with_reducible first | exact HB.out | apply below_alloc | apply pw_below_drewN | apply below_drew1) | exact HB.out)) hb); have n1_ := Aside0.mk (hbox); have n2_ := Aside0.mk ((by rw [hg]; exact (below_size (by repeat (first | (with_reducible first | exact HB.out | apply below_alloc | apply pw_below_drewN | apply below_drew1) | exact HB.out))) : w.heap.size ≤ gb131)); have n3_ := Aside0.mk ((by rw [hg]; exact (below_size (by repeat (first | (with_reducible first | exact HB.out | apply below_alloc | apply pw_below_drewN | apply below_drew1) | exact HB.out))) : w.heap.size ≤ gb131)); clear HB; have HB := n0_; have BK131 := n1_; have GW131 := n2_; have GE131 := n3_; clear n0_ n1_ n2_ n3_; clear hb hbox hg; have hcz32_0 : w31.cell? ⟨gb131, 0, none⟩ = some (.slice none 0 0) := (blk_cell BK131.out 0).trans rfl; have hcz32_1 : w31.cell? ⟨gb131, 1, none⟩ = some (.int .i64 0) := (blk_cell BK131.out 1).trans rfl; have hfz32_0 := blk_frozen BK131.out 0; have hfz32_1 := blk_frozen BK131.out 1))
         have n0_ : Aside0 (((w31.setCell ⟨gb131, 0, none⟩ (.slice A130_0 ((rd_T41 l0 x7_1).f0).length c130_0)).setCell ⟨gb131, 1, none⟩ (.int .i64 ((rd_T41 l0 x7_1).f1))).heap[gb131]? = some (.cells #[.slice A130_0 ((rd_T41 l0 x7_1).f0).length c130_0, .int .i64 ((rd_T41 l0 x7_1).f1)] 41 (0, 0))) := ⟨by (with_reducible repeat (first | refine blk_drewN ?_ _ | refine blk_drew ?_ | refine blk_alloc ?_ _)); refine blk_put (cs := #[.slice A130_0 ((rd_T41 l0 x7_1).f0).length c130_0, .int .i64 0]) ?_ 1 _ rfl; (with_reducible repeat (first | refine blk_drewN ?_ _ | refine blk_drew ?_ | refine blk_alloc ?_ _)); refine blk_put (cs := #[.slice none 0 0, .int .i64 0]) ?_ 0 _ rfl; (with_reducible repeat (first | refine blk_drewN ?_ _ | refine blk_drew ?_ | refine blk_alloc ?_ _)); exact BK131.out⟩
         have n1_ : Aside0 (Below w.heap.size w ((w31.setCell ⟨gb131, 0, none⟩ (.slice A130_0 ((rd_T41 l0 x7_1).f0).length c130_0)).setCell ⟨gb131, 1, none⟩ (.int .i64 ((rd_T41 l0 x7_1).f1)))) := ⟨by repeat (first | (with_reducible first | exact HB.out | apply below_alloc | apply pw_below_drewN | apply below_drew1 | refine below_set ?_ GE131.out) | exact HB.out)⟩
         (try clear BK131)
         (try clear HB)
         generalize ((w31.setCell ⟨gb131, 0, none⟩ (.slice A130_0 ((rd_T41 l0 x7_1).f0).length c130_0)).setCell ⟨gb131, 1, none⟩ (.int .i64 ((rd_T41 l0 x7_1).f1))) = w33 at n0_ n1_ ⊢
         have BK131 := n0_
         have HB := n1_
         clear n0_ n1_
         have n0_ := Aside0.mk (blk_drew BK131.out)
         have n1_ := Aside0.mk (below_drew1 HB.out)
         clear BK131
         clear HB
         have BK131 := n0_
         have HB := n1_
         clear n0_ n1_
         refine start_ (n := 24) (S := fun w' => w'.cell? ⟨gb131, 0, none⟩ = some (.slice A130_0 ((rd_T41 l0 x7_1).f0).length c130_0) ∧ w'.cell? ⟨gb131, 1, none⟩ = some (.int .i64 ((rd_T41 l0 x7_1).f1))) (ds := []) #[false, false, false, false, false, false, false, false, false, false, false, false, false, false, false, false, false, false, false, false, false, false, false, false] (by kernel_rfl) rfl rfl ⟨(blk_cell BK131.out 0).trans rfl, (blk_cell BK131.out 1).trans rfl⟩ (fun hHeld => ?_); refine with_tabW bag_Valid.tab4 bag_Valid.bits4 (fun HT_ HW_ => ?_)
         generalize w33.drew = w34 at BK131 HB hHeld ⊢
         refine ta (i := 0) (N := some 12) (bl 24 1) (take_ofW HT_.out HW_.out (by kernel_rfl)) hHeld ?_
         refine one_ (i := 1) (N := some 13) (bl 24 3) rfl rfl (one_of HT_.out (by kernel_rfl)) (by decide) (fun K hK => ?_)
         refine goes_ Try.func46 (by kernel_rfl) rfl #[.agg #[.slice A130_0 ((rd_T41 l0 x7_1).f0).length c130_0, .int .i64 ((rd_T41 l0 x7_1).f1)]] (by rfl) rfl rfl (by (try simp only [List.map_toArray, List.map_cons, List.map_nil]); first | done | rfl | (simp only [List.length_drop, List.length_take]; rfl)) ?_
         with_reducible refine (bag_entryFits.calls k1 _ _ ((rd_T41 l0 x7_1).f0) ((rd_T41 l0 x7_1).f1) true _ ?side1 ?side2 A5.out).mono ?_
         (case side1 => repeat (first | exact (Kd.C_below HR130_0.out HB.out) | (with_reducible refine Kd.C_alloc ?_ _) | (with_reducible refine Kd.C_drewN ?_ _) | (with_reducible refine Kd.C_drew ?_)))
         (case side2 => exact HC130_0.out)
         rintro e w35 ⟨rfl, hb⟩
         refine ⟨_, rfl, ?_⟩
         have n0_ := Aside0.mk (blk_below (g := gb131) (o := .cells #[.slice A130_0 ((rd_T41 l0 x7_1).f0).length c130_0, .int .i64 ((rd_T41 l0 x7_1).f1)] 41 (0, 0)) (by (with_reducible repeat (first | refine blk_drewN ?_ _ | refine blk_drew ?_ | refine blk_alloc ?_ _)); exact BK131.out) hb)
         have n1_ := Aside0.mk (below_step (by repeat (first | (with_reducible first | exact HB.out | apply below_alloc | apply pw_below_drewN | apply below_drew1 | refine below_set ?_ GE131.out) | exact HB.out)) hb)
         clear BK131
         clear HB
         have BK131 := n0_
         have HB := n1_
         clear n0_ n1_
         (try clear hb)
         (try clear hb2)
         (try clear hk)
         (try clear hi)
         refine hK.out _ _ ⟨(blk_cell BK131.out 0).trans rfl, (blk_cell BK131.out 1).trans rfl⟩ (fun hHeld => ?_)
         clear hK K
         refine norm_ (a' := ?_) ?_ ?_
         rotate_left
         ·show Act.put _ (some 13) _ = _
          simp only [Act.put, List.setIfInBounds_toArray, List.set_cons_zero, List.set_cons_succ, i64_w, i32_w]
          rfl
         refine pu (i := 2) (N := some 14) (bl 24 7) (any_of HT_.out (by kernel_rfl)) ?_
         refine pu (i := 3) (N := some 15) (bl 24 15) (any_of HT_.out (by kernel_rfl)) ?_
         refine pu (i := 4) (N := some 16) (bl 24 31) (any_of HT_.out (by kernel_rfl)) ?_
         refine ta (i := 5) (N := some 17) (bl 24 63) (take_ofW HT_.out HW_.out (by kernel_rfl)) hHeld ?_
         refine pu (i := 6) (N := some 18) (bl 24 127) (any_of HT_.out (by kernel_rfl)) ?_
         refine pu (i := 7) (N := some 19) (bl 24 255) (any_of HT_.out (by kernel_rfl)) ?_
         refine pu (i := 8) (N := some 20) (bl 24 511) (any_of HT_.out (by kernel_rfl)) ?_
         refine pu (i := 9) (N := some 21) (bl 24 1023) (any_of HT_.out (by kernel_rfl)) ?_
         refine pu (i := 10) (N := some 22) (bl 24 2047) (any_of HT_.out (by kernel_rfl)) ?_
         refine pu (i := 11) (N := some 23) (bl 24 4095) (any_of HT_.out (by kernel_rfl)) ?_
         refine po (i := 12) (N := some 24) (bl 24 8191) (any_of HT_.out (by kernel_rfl)) ?_
         refine po (i := 13) (N := some 25) (bl 24 16383) (any_of HT_.out (by kernel_rfl)) ?_
         refine po (i := 14) (N := some 26) (bl 24 32767) (any_of HT_.out (by kernel_rfl)) ?_
         refine po (i := 15) (N := some 27) (bl 24 65535) (any_of HT_.out (by kernel_rfl)) ?_
         refine po (i := 16) (N := some 28) (bl 24 131071) (any_of HT_.out (by kernel_rfl)) ?_
         refine po (i := 17) (N := some 29) (bl 24 262143) (any_of HT_.out (by kernel_rfl)) ?_
         refine po (i := 18) (N := some 30) (bl 24 524287) (any_of HT_.out (by kernel_rfl)) ?_
         refine po (i := 19) (N := some 31) (bl 24 1048575) (any_of HT_.out (by kernel_rfl)) ?_
         refine po (i := 20) (N := some 32) (bl 24 2097151) (any_of HT_.out (by kernel_rfl)) ?_
         refine po (i := 21) (N := some 33) (bl 24 4194303) (any_of HT_.out (by kernel_rfl)) ?_
         refine pu (i := 22) (N := some 34) (bl 24 8388607) (any_of HT_.out (by kernel_rfl)) ?_
         refine pu (i := 23) (N := some 35) (bl 24 16777215) (any_of HT_.out (by kernel_rfl)) ?_
         refine done_ (done_of HT_.out (by kernel_rfl)) ?_
         try go_wp2
         go_roundg k1
         case measure => have := HK1.out; omega
         case rel => exact ⟨(wrap64 (x7_1 + 1)), (by first | rfl | (simp; done) | (simp [*]; done)), H', ⟨by have := HK1.out; omega⟩, ⟨by repeat (first | (with_reducible first | exact HB.out | apply below_alloc | apply pw_below_drewN | apply below_drew1 | refine below_set ?_ GE131.out) | exact HB.out)⟩⟩
      ·replace c6 := Bool.eq_false_iff.mpr c6
       subst c6
       have H1 : (some false) = some r := by rw [if_neg (show ¬ (false = true) by decide)] at H; exact H
       clear H
       have H := H1
       clear H1
       obtain rfl := Option.some.inj H
       have p130 : 0 ≤ (x7_1 : Int) := of_decide_eq_true (by first | (with_reducible assumption) | assumption)
       have q130 : x7_1 < (l0.length : Int) := of_decide_eq_true (by first | (with_reducible assumption) | assumption)
       obtain ⟨ad130, A130_0, c130_0, e130, hx130_0, hx130_1, hl130_0, hi130_0⟩ := at_T41 HR0.out x7_1 p130 q130
       cases e130
       replace hx130_0 := (HB.out.cell (World.block_lt_of_cell? w _ hx130_0)).trans hx130_0
       replace hx130_1 := (HB.out.cell (World.block_lt_of_cell? w _ hx130_1)).trans hx130_1
       have HR130_0 := Aside0.mk hi130_0
       have HC130_0 := Aside0.mk hl130_0
       clear hi130_0 hl130_0
       replace p130 := eq_true p130
       replace q130 := eq_true q130
       try go_wp2_with (first | ((with_reducible refine gate_dst (N := 4) rfl ?_); refine box_event ?hg (N := 4) ?hd (cs := #[.slice none 0 0, .int .i64 0]) (t := 41) ?hr ?_; (case hd => rfl); (case hg => rfl); (case hr => first | (go_simp; done) | (go_simp; rfl)); intro gb131 hg w36 hbox hb; have n0_ := Aside0.mk (below_step (by repeat (first | (with_reducible first | exact HB.out | apply below_alloc | apply pw_below_drewN | apply below_drew1) | exact HB.out)) hb); have n1_ := Aside0.mk (hbox); have n2_ := Aside0.mk ((by rw [hg]; exact (below_size (by repeat (first | (with_reducible first | exact HB.out | apply below_alloc | apply pw_below_drewN | apply below_drew1) | exact HB.out))) : w.heap.size ≤ gb131)); have n3_ := Aside0.mk ((by rw [hg]; exact (below_size (by repeat (first | (with_reducible first | exact HB.out | apply below_alloc | apply pw_below_drewN | apply below_drew1) | exact HB.out))) : w.heap.size ≤ gb131)); clear HB; have HB := n0_; have BK131 := n1_; have GW131 := n2_; have GE131 := n3_; clear n0_ n1_ n2_ n3_; clear hb hbox hg; have hcz37_0 : w36.cell? ⟨gb131, 0, none⟩ = some (.slice none 0 0) := (blk_cell BK131.out 0).trans rfl; have hcz37_1 : w36.cell? ⟨gb131, 1, none⟩ = some (.int .i64 0) := (blk_cell BK131.out 1).trans rfl; have hfz37_0 := blk_frozen BK131.out 0; have hfz37_1 := blk_frozen BK131.out 1))
       have n0_ : Aside0 (((w36.setCell ⟨gb131, 0, none⟩ (.slice A130_0 ((rd_T41 l0 x7_1).f0).length c130_0)).setCell ⟨gb131, 1, none⟩ (.int .i64 ((rd_T41 l0 x7_1).f1))).heap[gb131]? = some (.cells #[.slice A130_0 ((rd_T41 l0 x7_1).f0).length c130_0, .int .i64 ((rd_T41 l0 x7_1).f1)] 41 (0, 0))) := ⟨by (with_reducible repeat (first | refine blk_drewN ?_ _ | refine blk_drew ?_ | refine blk_alloc ?_ _)); refine blk_put (cs := #[.slice A130_0 ((rd_T41 l0 x7_1).f0).length c130_0, .int .i64 0]) ?_ 1 _ rfl; (with_reducible repeat (first | refine blk_drewN ?_ _ | refine blk_drew ?_ | refine blk_alloc ?_ _)); refine blk_put (cs := #[.slice none 0 0, .int .i64 0]) ?_ 0 _ rfl; (with_reducible repeat (first | refine blk_drewN ?_ _ | refine blk_drew ?_ | refine blk_alloc ?_ _)); exact BK131.out⟩
       have n1_ : Aside0 (Below w.heap.size w ((w36.setCell ⟨gb131, 0, none⟩ (.slice A130_0 ((rd_T41 l0 x7_1).f0).length c130_0)).setCell ⟨gb131, 1, none⟩ (.int .i64 ((rd_T41 l0 x7_1).f1)))) := ⟨by repeat (first | (with_reducible first | exact HB.out | apply below_alloc | apply pw_below_drewN | apply below_drew1 | refine below_set ?_ GE131.out) | exact HB.out)⟩
       (try clear BK131)
       (try clear HB)
       generalize ((w36.setCell ⟨gb131, 0, none⟩ (.slice A130_0 ((rd_T41 l0 x7_1).f0).length c130_0)).setCell ⟨gb131, 1, none⟩ (.int .i64 ((rd_T41 l0 x7_1).f1))) = w38 at n0_ n1_ ⊢
       have BK131 := n0_
       have HB := n1_
       clear n0_ n1_
       have n0_ := Aside0.mk (blk_drew BK131.out)
       have n1_ := Aside0.mk (below_drew1 HB.out)
       clear BK131
       clear HB
       have BK131 := n0_
       have HB := n1_
       clear n0_ n1_
       refine start_ (n := 24) (S := fun w' => w'.cell? ⟨gb131, 0, none⟩ = some (.slice A130_0 ((rd_T41 l0 x7_1).f0).length c130_0) ∧ w'.cell? ⟨gb131, 1, none⟩ = some (.int .i64 ((rd_T41 l0 x7_1).f1))) (ds := []) #[false, false, false, false, false, false, false, false, false, false, false, false, false, false, false, false, false, false, false, false, false, false, false, false] (by kernel_rfl) rfl rfl ⟨(blk_cell BK131.out 0).trans rfl, (blk_cell BK131.out 1).trans rfl⟩ (fun hHeld => ?_); refine with_tabW bag_Valid.tab4 bag_Valid.bits4 (fun HT_ HW_ => ?_)
       generalize w38.drew = w39 at BK131 HB hHeld ⊢
       refine ta (i := 0) (N := some 12) (bl 24 1) (take_ofW HT_.out HW_.out (by kernel_rfl)) hHeld ?_
       refine one_ (i := 1) (N := some 13) (bl 24 3) rfl rfl (one_of HT_.out (by kernel_rfl)) (by decide) (fun K hK => ?_)
       refine goes_ Try.func46 (by kernel_rfl) rfl #[.agg #[.slice A130_0 ((rd_T41 l0 x7_1).f0).length c130_0, .int .i64 ((rd_T41 l0 x7_1).f1)]] (by rfl) rfl rfl (by (try simp only [List.map_toArray, List.map_cons, List.map_nil]); first | done | rfl | (simp only [List.length_drop, List.length_take]; rfl)) ?_
       with_reducible refine (bag_entryFits.calls k1 _ _ ((rd_T41 l0 x7_1).f0) ((rd_T41 l0 x7_1).f1) false _ ?side1 ?side2 A5.out).mono ?_
       (case side1 => repeat (first | exact (Kd.C_below HR130_0.out HB.out) | (with_reducible refine Kd.C_alloc ?_ _) | (with_reducible refine Kd.C_drewN ?_ _) | (with_reducible refine Kd.C_drew ?_)))
       (case side2 => exact HC130_0.out)
       rintro e w40 ⟨rfl, hb⟩
       refine ⟨_, rfl, ?_⟩
       have n0_ := Aside0.mk (blk_below (g := gb131) (o := .cells #[.slice A130_0 ((rd_T41 l0 x7_1).f0).length c130_0, .int .i64 ((rd_T41 l0 x7_1).f1)] 41 (0, 0)) (by (with_reducible repeat (first | refine blk_drewN ?_ _ | refine blk_drew ?_ | refine blk_alloc ?_ _)); exact BK131.out) hb)
       have n1_ := Aside0.mk (below_step (by repeat (first | (with_reducible first | exact HB.out | apply below_alloc | apply pw_below_drewN | apply below_drew1 | refine below_set ?_ GE131.out) | exact HB.out)) hb)
       clear BK131
       clear HB
       have BK131 := n0_
       have HB := n1_
       clear n0_ n1_
       (try clear hb)
       (try clear hb2)
       (try clear hk)
       (try clear hi)
       refine hK.out _ _ ⟨(blk_cell BK131.out 0).trans rfl, (blk_cell BK131.out 1).trans rfl⟩ (fun hHeld => ?_)
       clear hK K
       refine norm_ (a' := ?_) ?_ ?_
       rotate_left
       ·show Act.put _ (some 13) _ = _
        simp only [Act.put, List.setIfInBounds_toArray, List.set_cons_zero, List.set_cons_succ, i64_w, i32_w]
        rfl
       refine pu (i := 2) (N := some 14) (bl 24 7) (any_of HT_.out (by kernel_rfl)) ?_
       refine pu (i := 3) (N := some 15) (bl 24 15) (any_of HT_.out (by kernel_rfl)) ?_
       refine po (i := 4) (N := some 16) (bl 24 31) (any_of HT_.out (by kernel_rfl)) ?_
       refine po (i := 5) (N := some 17) (bl 24 63) (any_of HT_.out (by kernel_rfl)) ?_
       refine po (i := 6) (N := some 18) (bl 24 127) (any_of HT_.out (by kernel_rfl)) ?_
       refine pu (i := 7) (N := some 19) (bl 24 255) (any_of HT_.out (by kernel_rfl)) ?_
       refine pu (i := 8) (N := some 20) (bl 24 511) (any_of HT_.out (by kernel_rfl)) ?_
       refine po (i := 9) (N := some 21) (bl 24 1023) (any_of HT_.out (by kernel_rfl)) ?_
       refine po (i := 10) (N := some 22) (bl 24 2047) (any_of HT_.out (by kernel_rfl)) ?_
       refine po (i := 11) (N := some 23) (bl 24 4095) (any_of HT_.out (by kernel_rfl)) ?_
       refine po (i := 12) (N := some 24) (bl 24 8191) (any_of HT_.out (by kernel_rfl)) ?_
       refine po (i := 13) (N := some 25) (bl 24 16383) (any_of HT_.out (by kernel_rfl)) ?_
       refine po (i := 14) (N := some 26) (bl 24 32767) (any_of HT_.out (by kernel_rfl)) ?_
       refine po (i := 15) (N := some 27) (bl 24 65535) (any_of HT_.out (by kernel_rfl)) ?_
       refine po (i := 16) (N := some 28) (bl 24 131071) (any_of HT_.out (by kernel_rfl)) ?_
       refine po (i := 17) (N := some 29) (bl 24 262143) (any_of HT_.out (by kernel_rfl)) ?_
       refine po (i := 18) (N := some 30) (bl 24 524287) (any_of HT_.out (by kernel_rfl)) ?_
       refine po (i := 19) (N := some 31) (bl 24 1048575) (any_of HT_.out (by kernel_rfl)) ?_
       refine po (i := 20) (N := some 32) (bl 24 2097151) (any_of HT_.out (by kernel_rfl)) ?_
       refine po (i := 21) (N := some 33) (bl 24 4194303) (any_of HT_.out (by kernel_rfl)) ?_
       refine po (i := 22) (N := some 34) (bl 24 8388607) (any_of HT_.out (by kernel_rfl)) ?_
       refine pu (i := 23) (N := some 35) (bl 24 16777215) (any_of HT_.out (by kernel_rfl)) ?_
       refine done_ (done_of HT_.out (by kernel_rfl)) ?_
       try go_wp2
       go_ret
       exact ⟨by first | rfl | (simp [errW_none, errW_some] <;> rfl) | (simp [*, errW_none, errW_some] <;> rfl), by repeat (first | (with_reducible first | exact HB.out | apply below_alloc | apply pw_below_drewN | apply below_drew1 | refine below_set ?_ GE131.out) | exact HB.out)⟩
     ·rw [if_neg c4] at H
      exact absurd H (by simp)
    ·rw [if_neg c3] at H
     exact absurd H (by simp)
   ·rw [if_neg c2] at H
    have c2b0 : decide (x7_1 < (l0.length : Int)) = false := decide_eq_false c2
    clear c2
    obtain rfl := Option.some.inj H
    go_wp2
    go_ret
    exact ⟨by first | rfl | (simp [errW_none, errW_some] <;> rfl) | (simp [*, errW_none, errW_some] <;> rfl), by repeat (first | (with_reducible first | exact HB.out | apply below_alloc | apply pw_below_drewN | apply below_drew1) | exact HB.out)⟩
end Go.Proofs.Ytjhnpaenhdbhpaa.P
namespace Go.Proofs.Ytjhnpaenhdbhpaa.P
open Go.RowKit Go.Proofs.YtjhnpaenhdbhpaaW.PrintWords Go.Proofs.YtjhnpaenhdbhpaaW.PrintLast Go.Proofs.YtjhnpaenhdbhpaaW.PrintMore
attribute [local go_sem] max2_int min2_int max_two min_two max_three min_three max_four min_four
set_option linter.unusedVariables false
set_option linter.unusedSimpArgs false
def release_cleaned.l0 : Nat → List (S38) → List (S38) → Int → Option ((List (S38)))
 | 0, _, _, _ => none
 | k + 1, x0, x3, x4 => if x4 < (x0.length : Int) then (if 0 ≤ x4 then ((value_Clean.f ((rd_T38 x0 x4).f0) ((rd_T38 x0 x4).f1) ((rd_T38 x0 x4).f2)).bind fun bt423 => (if x3.length < 4398046511104 then (release_cleaned.l0 k x0 (x3 ++ [(⟨bt423.1, bt423.2.1, bt423.2.2⟩ : S38)]) (wrap64 (x4 + 1))) else (none))) else (none)) else (some x3)
def release_cleaned.f (k : Nat) (l0 : List (S38)) : Option ((List (S38))) := release_cleaned.l0 k l0 ([] : List (S38)) 0
theorem release_cleaned.mono_l : ∀ k, (∀ y0 y1 y2, LeO (release_cleaned.l0 k y0 y1 y2) (release_cleaned.l0 (k + 1) y0 y1 y2))
 | 0 => fun _ _ _ r h => by simp [release_cleaned.l0] at h
 | k + 1 => by
  have ih0 := release_cleaned.mono_l k
  ·intro y0 y1 y2
   unfold release_cleaned.l0
   repeat' first
   | (with_reducible exact ih0 _ _ _)
   | (with_reducible exact LeO.refl _)
   | (with_reducible exact LeO.none _)
   | (with_reducible refine LeO.ite ?_ ?_)
   | (with_reducible refine LeO.bind ?_ (fun _ => ?_))
   | exact ih0 _ _ _
   | exact LeO.none _
   | refine LeO.ite ?_ ?_
   | refine LeO.bind ?_ (fun _ => ?_)
theorem release_cleaned.mono : ∀ a0 k, LeO (release_cleaned.f k a0) (release_cleaned.f (k + 1) a0) := by
 intro a0 k
 have ih0 := release_cleaned.mono_l k
 unfold release_cleaned.f
 repeat' first
   | (with_reducible exact ih0 _ _ _)
   | (with_reducible exact LeO.refl _)
   | (with_reducible exact LeO.none _)
   | (with_reducible refine LeO.ite ?_ ?_)
   | (with_reducible refine LeO.bind ?_ (fun _ => ?_))
   | exact ih0 _ _ _
   | exact LeO.none _
   | refine LeO.ite ?_ ?_
   | refine LeO.bind ?_ (fun _ => ?_)
set_option maxHeartbeats 8000000 in
set_option maxRecDepth 100000 in
theorem release_cleaned.calls (k : Nat) (A0 : Option Addr) (c0 : Nat) (l0 : List (S38)) (r : List (S38)) (w : World) (hr0 : Kd.C k38 w A0 l0.length l0) (hc0 : l0.length ≤ c0) (h : release_cleaned.f k l0 = some r) :
  Calls Try.prog 37 #[.slice A0 l0.length c0] w fun e w' => ∃ v0_ : Value, e = .returned (v0_) ∧ Kd.R k38 38 w' w.heap.size (fun _ => True) v0_ r ∧ Below w.heap.size w w' := by
 have hu38 := Try.underlying38
 have HR0 := Aside0.mk hr0
 have HC0 := Aside0.mk hc0
 clear hr0 hc0
 have HB := Aside0.mk (Below.refl w.heap.size w)
 have H : (release_cleaned.l0 k l0 ([] : List (S38)) 0) = some r := h
 clear h
 have H' := Aside0.mk H
 clear H
 go_enter Try.func37, Try.ntmps37
 go_wp2
 go_loopg [3, 4] k (fun kq v3 v4 w' => ∃ (x3_1 : List (S38)) (x4_1 : Int), v4 = .int .i64 x4_1 ∧ Aside0 (release_cleaned.l0 kq l0 x3_1 x4_1 = some r) ∧ Aside0 (kq ≤ k) ∧ Aside0 (Kd.R k38 38 w' w.heap.size (fun _ => True) v3 x3_1) ∧ Aside0 (Below w.heap.size w w'))
 case atStart => exact ⟨(([] : List (S38))), (0), (by first | rfl | (simp; done) | (simp [*]; done)), H', ⟨Nat.le_refl _⟩, ⟨by first | exact Kd.R_nil _ _ _ _ _ | exact Kd.N_nil _ _ _ _ _ | exact Kd.V_nil _ _ _ _ _ | exact Kd.Q_nil _ _ _ _ _ | exact Kd.S_nil _ _ _ _ _⟩, ⟨by repeat (first | (with_reducible first | exact HB.out | apply below_alloc | apply pw_below_drewN | apply below_drew1) | exact HB.out)⟩⟩
 case round =>
  clear H'
  obtain ⟨x3_1, x4_1, rfl, HA, HK1, HO_3, HB⟩ := hrel
  cases gk with
  | zero => exact absurd HA.out (by simp [release_cleaned.l0])
  | succ k1 =>
   have H := HA.out
   clear HA
   simp only [release_cleaned.l0] at H
   by_cases c2 : x4_1 < (l0.length : Int)
   ·rw [if_pos c2] at H
    have c2b0 : decide (x4_1 < (l0.length : Int)) = true := decide_eq_true c2
    clear c2
    by_cases c3 : 0 ≤ x4_1
    ·rw [if_pos c3] at H
     have c3b0 : decide (0 ≤ x4_1) = true := decide_eq_true c3
     clear c3
     replace H := Option.bind_eq_some_iff.mp H
     obtain ⟨⟨t423, t424, t425⟩, A40, H⟩ := H
     replace H : (if x3_1.length < 4398046511104 then (release_cleaned.l0 k1 l0 (x3_1 ++ [(⟨t423, t424, t425⟩ : S38)]) (wrap64 (x4_1 + 1))) else (none)) = some r := H
     have A4 := Aside0.mk A40
     clear A40
     by_cases c5 : x3_1.length < 4398046511104
     ·rw [if_pos c5] at H
      have LMc5 := Aside0.mk c5
      clear c5
      obtain ⟨y426, hy426⟩ : ∃ y_ : List (S38), y_ = (x3_1 ++ [(⟨t423, t424, t425⟩ : S38)]) := ⟨_, rfl⟩
      replace H : (release_cleaned.l0 k1 l0 y426 (wrap64 (x4_1 + 1))) = some r := by first | (rw [hy426]; with_reducible exact H) | (have H2_ := (Option.bind_some _ _).symm.trans H; rw [hy426]; with_reducible exact H2_) | (have H2_ := (Option.bind_some _ _).symm.trans H; with_reducible exact H2_) | with_reducible exact H | (rw [hy426]; exact H) | exact H
      have Ny426 := Aside0.mk hy426
      clear hy426
      have H' := Aside0.mk H
      clear H
      have p422 : 0 ≤ (x4_1 : Int) := of_decide_eq_true (by first | (with_reducible assumption) | assumption)
      have q422 : x4_1 < (l0.length : Int) := of_decide_eq_true (by first | (with_reducible assumption) | assumption)
      obtain ⟨ad422, e422, hx422_0, hx422_1, hx422_2⟩ := at_T38 HR0.out x4_1 p422 q422
      cases e422
      replace hx422_0 := (HB.out.cell (World.block_lt_of_cell? w _ hx422_0)).trans hx422_0
      replace hx422_1 := (HB.out.cell (World.block_lt_of_cell? w _ hx422_1)).trans hx422_1
      replace hx422_2 := (HB.out.cell (World.block_lt_of_cell? w _ hx422_2)).trans hx422_2
      replace p422 := eq_true p422
      replace q422 := eq_true q422
      go_wp2_with (first | ((with_reducible refine gate_callee (f := 47) rfl ?_); refine goesL_ (some 16) rfl rfl Try.func47 (by kernel_rfl) rfl #[.agg #[.int .i64 ((rd_T38 l0 x4_1).f0), .int .i64 ((rd_T38 l0 x4_1).f1), .string ((rd_T38 l0 x4_1).f2)]] rfl (by (try simp only [List.map_toArray, List.map_cons, List.map_nil]); first | done | rfl | (simp only [List.length_drop, List.length_take]; rfl)) ?_; (with_reducible refine (value_Clean.calls ((rd_T38 l0 x4_1).f0) ((rd_T38 l0 x4_1).f1) ((rd_T38 l0 x4_1).f2) t423 t424 t425 _ A4.out).mono ?_); rintro e w6 ⟨rfl, hb⟩; refine ⟨_, rfl, ?_⟩; have n0_ := Aside0.mk (Kd.R_below (by (with_reducible repeat (first | apply Kd.R_alloc | apply Kd.R_drewN | apply Kd.R_drew)); exact HO_3.out) hb); have n1_ := Aside0.mk (below_step (by repeat (first | (with_reducible first | exact HB.out | apply below_alloc | apply pw_below_drewN | apply below_drew1) | exact HB.out)) hb); clear HO_3; clear HB; have HO_3 := n0_; have HB := n1_; clear n0_ n1_; (try clear hb); (try clear hb2); (try clear hk); (try clear hi)) | ((with_reducible refine gate_builtin (b := .append) (xs := #[.tmp 11, .tmp 17]) rfl ?_); at_builtin; refine Kd.R_append k38 (w0 := w) w.heap.size rfl (.tmp 11) (.tmp 17) 39 38 (.agg #[(.int .i64 0), (.int .i64 0), (.string ⟨#[]⟩)]) 32 rfl Try.underlying39 info38 rfl (by decide) (by omega) u3 x3_1 (⟨t423, t424, t425⟩ : S38) [.int .i64 t423, .int .i64 t424, .string t425] (fun _ => True) (fun _ => False) rfl rfl ?aP (fun _ hk => hk.elim) ?aF ?aO ?aB ?aS ?aL ?_; (case aP => exact k38_mkM _ _ _ (⟨t423, t424, t425⟩ : S38)); (case aB => exact (by repeat (first | (with_reducible first | exact HB.out | apply below_alloc | apply pw_below_drewN | apply below_drew1) | exact HB.out))); (case aF => exact (fun _ _ => trivial)); (case aO => exact (by (with_reducible repeat (first | apply Kd.R_alloc | apply Kd.R_drewN | apply Kd.R_drew)); exact HO_3.out)); (case aS => exact (below_size (by repeat (first | (with_reducible first | exact HB.out | apply below_alloc | apply pw_below_drewN | apply below_drew1) | exact HB.out)))); (case aL => have := LMc5.out; omega); intro v427 w7 ho hb hg hat; rw [← Ny426.out] at ho; have n0_ := Aside0.mk (hb); have n1_ := Aside0.mk (ho); clear HB; clear HO_3; have HB := n0_; have HO428 := n1_; clear n0_ n1_; clear ho hb hg hat))
      go_roundg k1
      case measure => have := HK1.out; omega
      case rel => exact ⟨(y426), (wrap64 (x4_1 + 1)), (by first | rfl | (simp; done) | (simp [*]; done)), H', ⟨by have := HK1.out; omega⟩, ⟨by (with_reducible repeat (first | apply Kd.R_alloc | apply Kd.R_drewN | apply Kd.R_drew)); exact HO428.out⟩, ⟨by repeat (first | (with_reducible first | exact HB.out | apply below_alloc | apply pw_below_drewN | apply below_drew1) | exact HB.out)⟩⟩
     ·rw [if_neg c5] at H
      exact absurd H (by simp)
    ·rw [if_neg c3] at H
     exact absurd H (by simp)
   ·rw [if_neg c2] at H
    have c2b0 : decide (x4_1 < (l0.length : Int)) = false := decide_eq_false c2
    clear c2
    obtain rfl := Option.some.inj H
    go_wp2
    go_ret
    exact ⟨_, by first | rfl | (simp [errW_none, errW_some] <;> rfl) | (simp [*, errW_none, errW_some] <;> rfl), by (with_reducible repeat (first | apply Kd.R_alloc | apply Kd.R_drewN | apply Kd.R_drew)); exact HO_3.out, by repeat (first | (with_reducible first | exact HB.out | apply below_alloc | apply pw_below_drewN | apply below_drew1) | exact HB.out)⟩
end Go.Proofs.Ytjhnpaenhdbhpaa.P
namespace Go.Proofs.Ytjhnpaenhdbhpaa.P
open Go.RowKit Go.Proofs.YtjhnpaenhdbhpaaW.PrintWords Go.Proofs.YtjhnpaenhdbhpaaW.PrintLast Go.Proofs.YtjhnpaenhdbhpaaW.PrintMore
attribute [local go_sem] max2_int min2_int max_two min_two max_three min_three max_four min_four
set_option linter.unusedVariables false
set_option linter.unusedSimpArgs false
def release_Publish.step (k : Nat) (keys least : Int) (x : S41) (ys : List S43) : Option (List S43) :=
 if x.f1 = 1 then
  if keys < (x.f0.length : Int) then
   if 0 ≤ keys then
    if (rd_T38 x.f0 keys).f0 = 1 then
     if (rd_T38 x.f0 keys).f1 < least then some ys
     else if (rd_T38 x.f0 keys).f1 > 4294967296 then some ys
     else (release_cleaned.f k (x.f0.take keys.toNat)).bind fun t => if least = 0 then none else if ys.length < 4398046511104 then some (ys ++ [⟨t, wrap64 ((rd_T38 x.f0 keys).f1 - Int.tmod (rd_T38 x.f0 keys).f1 least)⟩]) else none
    else some ys
   else none
  else some ys
 else some ys
def release_Publish.go (k : Nat) (keys least : Int) : List S41 → List S43 → Option (List S43)
 | [], ys => some ys
 | x :: xs, ys => (release_Publish.step k keys least x ys).bind fun ys1 => release_Publish.go k keys least xs ys1
def release_Publish.f (k : Nat) (a0_0 : ByteArray) (a0_1 : ByteArray) (a0_2 : Int) (a1 : Int) (l2 : List S41) : Option (List S43) :=
 if a0_2 < 1 then some [] else if a1 < 0 then some [] else (bag_Valid.f k l2).bind fun b => if b = true then release_Publish.go k a1 a0_2 l2 [] else some []
theorem release_Publish.step_mono (keys least : Int) (x : S41) (ys : List S43) (k : Nat) : LeO (release_Publish.step k keys least x ys) (release_Publish.step (k + 1) keys least x ys) := by
 unfold release_Publish.step
 repeat' first
 | (with_reducible exact LeO.refl _)
 | exact release_cleaned.mono _ _
 | (with_reducible refine LeO.ite ?_ ?_)
 | (with_reducible refine LeO.bind ?_ (fun _ => ?_))
theorem release_Publish.go_mono (keys least : Int) (k : Nat) : ∀ (xs : List S41) (ys : List S43), LeO (release_Publish.go k keys least xs ys) (release_Publish.go (k + 1) keys least xs ys)
 | [], _ => LeO.refl _
 | x :: xs, ys => by
  unfold release_Publish.go
  exact LeO.bind (release_Publish.step_mono keys least x ys k) (fun ys1 => release_Publish.go_mono keys least k xs ys1)
theorem release_Publish.mono : ∀ a0 a1 a2 a3 a4 k, LeO (release_Publish.f k a0 a1 a2 a3 a4) (release_Publish.f (k + 1) a0 a1 a2 a3 a4) := by
 intro a0 a1 a2 a3 a4 k
 unfold release_Publish.f
 repeat' first
 | (with_reducible exact LeO.refl _)
 | exact bag_Valid.mono _ _
 | exact release_Publish.go_mono _ _ _ _ _
 | (with_reducible refine LeO.ite ?_ ?_)
 | (with_reducible refine LeO.bind ?_ (fun _ => ?_))
theorem fkU_of {W : World} {ok : Nat → Prop} {A : Option Addr} {c base : Nat} {ok' : Nat → Prop} {t : List S38} (n : Int) (h : Kd.R k38 38 W base ok' (.slice A t.length c) t) (hok : ∀ k, ok' k → ok k) : Kd.FK k43 W ok (⟨t, n⟩ : S43) [.slice A t.length c, .int .i64 n] :=
 k43_mkF W ok (⟨t, n⟩ : S43) (Kd.R_reads' h).2.1 (Kd.F_mono (Kd.R_F h) hok)
def PubInv (w W : World) (b1 b2 b3 : Nat) (keys least : Int) (v : Value) (ys : List S43) : Prop :=
 W.heap[b1]? = some (.cells #[.int .i64 keys] 3 (0, 0)) ∧ W.heap[b2]? = some (.cells #[.int .i64 least] 2 (0, 0)) ∧ W.heap[b3]? = some (.cells #[v] 31 (0, 0)) ∧
 Kd.N k43 43 W w.heap.size (fun k_ => w.heap.size ≤ k_ ∧ k_ ≠ b3) v ys ∧ Below w.heap.size w W
theorem PubInv.below {w W W1 : World} {b1 b2 b3 : Nat} {keys least : Int} {v : Value} {ys : List S43} (h : PubInv w W b1 b2 b3 keys least v ys) (hb : Below W.heap.size W W1) : PubInv w W1 b1 b2 b3 keys least v ys :=
 ⟨blk_below h.1 hb, blk_below h.2.1 hb, blk_below h.2.2.1 hb, Kd.N_below h.2.2.2.1 hb, below_step h.2.2.2.2 hb⟩
def PubPost (w : World) (b1 b2 b3 : Nat) (keys least : Int) (r : List S43) (e : Ending) (W' : World) : Prop := e = .returned (.tuple #[]) ∧ ∃ v', PubInv w W' b1 b2 b3 keys least v' r
set_option maxHeartbeats 1000000 in
set_option maxRecDepth 100000 in
theorem release_Publish_1.calls (k : Nat) (keys least : Int) (x : S41) (A : Option Addr) (c : Nat) (ys r : List S43) (w W : World) (b1 b2 b3 : Nat) (v : Value)
  (hr : Kd.C k38 W A x.f0.length x.f0) (hc : x.f0.length ≤ c) (hI : PubInv w W b1 b2 b3 keys least v ys) (g3 : w.heap.size ≤ b3) (n13 : b1 ≠ b3) (n23 : b2 ≠ b3)
  (h : release_Publish.step k keys least x ys = some r) :
  Calls Try.prog 36 #[.agg #[.slice A x.f0.length c, .int .i64 x.f1], .pointer (some ⟨b1, 0, none⟩), .pointer (some ⟨b2, 0, none⟩), .pointer (some ⟨b3, 0, none⟩)] W (PubPost w b1 b2 b3 keys least r) := by
 have hu38 := Try.underlying38
 have hu43 := Try.underlying43
 have hu41 := Try.underlying41
 have HR := Aside0.mk hr
 have HC2 := Aside0.mk (show (x.f0.take keys.toNat).length ≤ c from Nat.le_trans (by rw [List.length_take]; exact Nat.min_le_right _ _) hc)
 have HC := Aside0.mk hc
 have hlm : x.f0.length ≤ 9223372036854775807 := hr.2.1
 have HI := Aside0.mk hI
 clear hr hc hI
 have E4 : ∀ W' : World, W'.heap[W'.heap.size]? = none := fun W' => by simp
 have HSTAY : Aside0 (∀ W' : World, Below W.heap.size W W' → r = ys → PubPost w b1 b2 b3 keys least r (.returned (.tuple #[])) W') := ⟨fun W' hb e => ⟨rfl, v, by rw [e]; exact HI.out.below hb⟩⟩
 have k1 : ∀ o : Obj, (W.alloc o).cell? ⟨b1, 0, none⟩ = some (.int .i64 keys) := fun o => (blk_cell (blk_alloc HI.out.1 o) 0).trans rfl
 have k2 : ∀ o : Obj, (W.alloc o).cell? ⟨b2, 0, none⟩ = some (.int .i64 least) := fun o => (blk_cell (blk_alloc HI.out.2.1 o) 0).trans rfl
 have k11 : ∀ o o' : Obj, ((W.alloc o).alloc o').cell? ⟨b1, 0, none⟩ = some (.int .i64 keys) := fun o o' => (blk_cell (blk_alloc (blk_alloc HI.out.1 o) o') 0).trans rfl
 have k22 : ∀ o o' : Obj, ((W.alloc o).alloc o').cell? ⟨b2, 0, none⟩ = some (.int .i64 least) := fun o o' => (blk_cell (blk_alloc (blk_alloc HI.out.2.1 o) o') 0).trans rfl
 by_cases c1 : x.f1 = 1
 ·unfold release_Publish.step at h
  rw [if_pos c1] at h
  have c1b : (x.f1 != 1) = false := by rw [bne_eq_false_iff_eq]; exact c1
  by_cases c2 : keys < (x.f0.length : Int)
  ·rw [if_pos c2] at h
   have c2b : decide ((x.f0.length : Int) ≤ keys) = false := decide_eq_false (by omega)
   by_cases c3 : 0 ≤ keys
   ·rw [if_pos c3] at h
    obtain ⟨ad, eA, x0, x1, x2⟩ := at_T38 (Kd.C_alloc HR.out (.cells #[.slice A x.f0.length c, .int .i64 x.f1] 41)) keys c3 c2
    cases eA
    by_cases c4 : (rd_T38 x.f0 keys).f0 = 1
    ·rw [if_pos c4] at h
     have c4b : ((rd_T38 x.f0 keys).f0 != 1) = false := by rw [bne_eq_false_iff_eq]; exact c4
     by_cases c5 : (rd_T38 x.f0 keys).f1 < least
     ·rw [if_pos c5] at h
      have c5b : decide ((rd_T38 x.f0 keys).f1 < least) = true := decide_eq_true c5
      have e : r = ys := (Option.some.inj h).symm
      clear h c1 c4 c5
      go_enter Try.func36, Try.ntmps36
      go_wp2
      go_end0
      exact HSTAY.out _ (below_alloc (below_alloc (Below.refl _ _) _) _) e
     ·rw [if_neg c5] at h
      have c5b : decide ((rd_T38 x.f0 keys).f1 < least) = false := decide_eq_false c5
      by_cases c6 : (rd_T38 x.f0 keys).f1 > 4294967296
      ·rw [if_pos c6] at h
       have c6b : decide (4294967296 < (rd_T38 x.f0 keys).f1) = true := decide_eq_true c6
       have e : r = ys := (Option.some.inj h).symm
       clear h c1 c4 c5 c6
       go_enter Try.func36, Try.ntmps36
       go_wp2
       go_end0
       exact HSTAY.out _ (below_alloc (below_alloc (Below.refl _ _) _) _) e
      ·rw [if_neg c6] at h
       have c6b : decide (4294967296 < (rd_T38 x.f0 keys).f1) = false := decide_eq_false c6
       obtain ⟨t, ht, h⟩ := Option.bind_eq_some_iff.1 h
       by_cases c7 : least = 0
       ·rw [if_pos c7] at h; cases h
       rw [if_neg c7] at h
       by_cases c8 : ys.length < 4398046511104
       ·rw [if_pos c8] at h
        have e := (Option.some.inj h)
        subst e
        obtain ⟨y, hy⟩ : ∃ y_ : List S38, y_ = x.f0.take keys.toNat := ⟨_, rfl⟩
        rw [← hy] at ht HC2
        have HT := Aside0.mk ht
        have LM := Aside0.mk (show (ys.length + 1) * 32 ≤ 140737488355328 by omega)
        have c7b : (least == 0) = false := beq_eq_false_iff_ne.2 c7
        clear h c1 c4 c5 c6 c8 ht HSTAY
        have D01 := blk_drew (blk_alloc (blk_alloc HI.out.1 (.cells #[.slice (some ad) x.f0.length c, .int .i64 x.f1] 41)) (.cells #[.int .i64 (rd_T38 x.f0 keys).f0, .int .i64 (rd_T38 x.f0 keys).f1, .string (rd_T38 x.f0 keys).f2] 38))
        have D02 := blk_drew (blk_alloc (blk_alloc HI.out.2.1 (.cells #[.slice (some ad) x.f0.length c, .int .i64 x.f1] 41)) (.cells #[.int .i64 (rd_T38 x.f0 keys).f0, .int .i64 (rd_T38 x.f0 keys).f1, .string (rd_T38 x.f0 keys).f2] 38))
        have D03 := blk_drew (blk_alloc (blk_alloc HI.out.2.2.1 (.cells #[.slice (some ad) x.f0.length c, .int .i64 x.f1] 41)) (.cells #[.int .i64 (rd_T38 x.f0 keys).f0, .int .i64 (rd_T38 x.f0 keys).f1, .string (rd_T38 x.f0 keys).f2] 38))
        have D04 := blk_drew (blk_alloc (heap_alloc_new W (.cells #[.slice (some ad) x.f0.length c, .int .i64 x.f1] 41)) (.cells #[.int .i64 (rd_T38 x.f0 keys).f0, .int .i64 (rd_T38 x.f0 keys).f1, .string (rd_T38 x.f0 keys).f2] 38))
        have D05 := blk_drew (heap_alloc_new (W.alloc (.cells #[.slice (some ad) x.f0.length c, .int .i64 x.f1] 41)) (.cells #[.int .i64 (rd_T38 x.f0 keys).f0, .int .i64 (rd_T38 x.f0 keys).f1, .string (rd_T38 x.f0 keys).f2] 38))
        have hND := Aside0.mk (Kd.N_drew (Kd.N_alloc (Kd.N_alloc HI.out.2.2.2.1 (.cells #[.slice (some ad) x.f0.length c, .int .i64 x.f1] 41)) (.cells #[.int .i64 (rd_T38 x.f0 keys).f0, .int .i64 (rd_T38 x.f0 keys).f1, .string (rd_T38 x.f0 keys).f2] 38)))
        have HBD := Aside0.mk (below_drew1 (below_alloc (below_alloc HI.out.2.2.2.2 (.cells #[.slice (some ad) x.f0.length c, .int .i64 x.f1] 41)) (.cells #[.int .i64 (rd_T38 x.f0 keys).f0, .int .i64 (rd_T38 x.f0 keys).f1, .string (rd_T38 x.f0 keys).f2] 38)))
        have HR2 := Aside0.mk (Kd.C_drew (Kd.C_alloc (Kd.C_alloc (Kd.C_take (m := keys.toNat) HR.out (by omega)) (.cells #[.slice (some ad) x.f0.length c, .int .i64 x.f1] 41)) (.cells #[.int .i64 (rd_T38 x.f0 keys).f0, .int .i64 (rd_T38 x.f0 keys).f1, .string (rd_T38 x.f0 keys).f2] 38)))
        have hlen : keys.toNat = y.length := by rw [hy, List.length_take]; omega
        rw [← hy] at HR2
        have HY := Aside0.mk hy
        clear hy
        obtain ⟨i0, hi0, _, hsz0, _⟩ := info_parts info38
        have hcut := cut_to (P := Try.prog) 39 38 .i64 Try.underlying39 hi0 (some ad) x.f0.length c keys c3 (by omega) HC.out
        rw [hlen] at hcut
        have HLEN := Aside0.mk hlen
        clear hlen
        rw [World.size_alloc] at D05
        go_enter Try.func36, Try.ntmps36
        go_wp2
        generalize hg5 : W.heap.size + 1 = g5 at D05 ⊢
        generalize hg4 : W.heap.size = g4 at D04 ⊢
        clear hg4 hg5
        refine start_ (n := 17) (S := fun w' => w'.cell? ⟨b1, 0, none⟩ = some (.int .i64 keys) ∧ w'.cell? ⟨b2, 0, none⟩ = some (.int .i64 least) ∧ w'.cell? ⟨b3, 0, none⟩ = some v ∧ w'.cell? ⟨g4, 0, none⟩ = some (.slice (some ad) x.f0.length c) ∧ w'.cell? ⟨g5, 1, none⟩ = some (.int .i64 (rd_T38 x.f0 keys).f1)) (ds := [16]) #[false, false, false, false, false, false, false, false, false, false, false, false, false, false, false, false, false] (by kernel_rfl) rfl rfl ⟨(blk_cell D01 0).trans rfl, (blk_cell D02 0).trans rfl, (blk_cell D03 0).trans rfl, (blk_cell D04 0).trans rfl, (blk_cell D05 1).trans rfl⟩ (fun hHeld => ?_)
        generalize ((W.alloc (.cells #[.slice (some ad) x.f0.length c, .int .i64 x.f1] 41)).alloc (.cells #[.int .i64 (rd_T38 x.f0 keys).f0, .int .i64 (rd_T38 x.f0 keys).f1, .string (rd_T38 x.f0 keys).f2] 38)).drew = W2 at D01 D02 D03 D04 D05 hND HBD HR2 hHeld ⊢
        refine pu (i := 1) (N := some 36) (bl 17 2) (by kernel_rfl) ?_
        refine pu (i := 6) (N := some 41) (bl 17 66) (by kernel_rfl) ?_
        refine pu (i := 8) (N := some 43) (bl 17 322) (by kernel_rfl) ?_
        refine ta (i := 0) (N := some 35) (bl 17 323) (by kernel_rfl) hHeld ?_
        refine ta (i := 2) (N := some 37) (bl 17 327) (by kernel_rfl) hHeld ?_
        refine ta (i := 3) (N := some 38) (bl 17 335) (by kernel_rfl) hHeld ?_
        refine pu (i := 4) (N := some 39) (bl 17 351) (by kernel_rfl) ?_
        refine ta (i := 7) (N := some 42) (bl 17 479) (by kernel_rfl) hHeld ?_
        refine ta (i := 9) (N := some 44) (bl 17 991) (by kernel_rfl) hHeld ?_
        refine ta (i := 10) (N := some 45) (bl 17 2015) (by kernel_rfl) hHeld ?_
        refine pu (i := 11) (N := some 46) (bl 17 4063) (by kernel_rfl) ?_
        refine pu (i := 12) (N := some 47) (bl 17 8159) (by kernel_rfl) ?_
        refine one_ (i := 5) (N := some 40) (bl 17 8191) rfl rfl (by kernel_rfl) (by decide) (fun K hK => ?_)
        refine goes_ Try.func37 (by kernel_rfl) rfl #[.slice (some ad) y.length c] (by rfl) rfl rfl (by (try simp only [List.map_toArray, List.map_cons, List.map_nil]); first | done | rfl) ?_
        with_reducible refine (release_cleaned.calls k _ _ y t _ HR2.out HC2.out HT.out).mono ?_
        rintro e w33 ⟨v2, rfl, ho0, hb⟩
        refine ⟨_, rfl, ?_⟩
        have HBE := Aside0.mk (below_step HBD.out hb)
        have hF := Aside0.mk (Kd.R_mono (Kd.R_bound ho0) (ok' := fun k_ => (w.heap.size ≤ k_ ∧ k_ ≠ b3) ∧ some k_ ≠ v.ownBlock) (fun k_ hk => ⟨⟨Nat.le_trans (below_size HBD.out) hk.2.1, fun e => by have := blk_lt D03; have := hk.2.1; omega⟩, fun e => by have := Kd.N_lt hND.out k_ e.symm; have := hk.2.1; omega⟩))
        have hN1 := Aside0.mk (Kd.N_below hND.out hb)
        have DE1 := blk_below D01 hb
        have DE2 := blk_below D02 hb
        have DE3 := blk_below D03 hb
        have DE4 := blk_below D04 hb
        have DE5 := blk_below D05 hb
        clear hND hb ho0 HBD
        obtain ⟨Ao, co, eo⟩ := Kd.R_slice hF.out
        subst eo
        refine hK.out _ _ ⟨(blk_cell DE1 0).trans rfl, (blk_cell DE2 0).trans rfl, (blk_cell DE3 0).trans rfl, (blk_cell DE4 0).trans rfl, (blk_cell DE5 1).trans rfl⟩ (fun hHeld => ?_)
        clear hK K
        refine norm_ (a' := ?_) ?_ ?_
        rotate_left
        ·show Act.put _ (some 40) _ = _
         simp only [Act.put, List.setIfInBounds_toArray, List.set_cons_zero, List.set_cons_succ, i64_w, i32_w]
         rfl
        refine pu (i := 13) (N := some 48) (bl 17 16383) (by kernel_rfl) ?_
        refine one_ (i := 14) (N := some 49) (bl 17 32767) rfl rfl (by kernel_rfl) (by decide) (fun K hK => ?_)
        refine value_ (w1 := ?_) (v := ?_) (by rfl) rfl ?_ ?_
        rotate_left 2
        ·go_simp
         constructor
         ·rfl
         ·rfl
        refine hK.out _ _ ⟨(blk_cell (blk_alloc DE1 _) 0).trans rfl, (blk_cell (blk_alloc DE2 _) 0).trans rfl, (blk_cell (blk_alloc DE3 _) 0).trans rfl, (blk_cell (blk_alloc DE4 _) 0).trans rfl, (blk_cell (blk_alloc DE5 _) 1).trans rfl⟩ (fun hHeld => ?_)
        clear hK K
        refine norm_ (a' := ?_) ?_ ?_
        rotate_left
        ·show Act.put _ (some 49) _ = _
         simp only [Act.put, List.setIfInBounds_toArray, List.set_cons_zero, List.set_cons_succ, i64_w, i32_w]
         rfl
        refine one_ (i := 15) (N := some 50) (bl 17 65535) rfl rfl (by kernel_rfl) (by decide) (fun K hK => ?_)
        refine Kd.N_append_step k43 (w0 := w) w.heap.size (by rfl) (.tmp 35) (.tmp 49) 31 43 (.agg #[(.slice none 0 0), (.int .i64 0)]) 32 rfl Try.underlying31 info43 rfl (by decide) (by omega) v ys (⟨t, wrap64 ((rd_T38 x.f0 keys).f1 - Int.tmod (rd_T38 x.f0 keys).f1 least)⟩ : S43) [.slice Ao t.length co, .int .i64 (wrap64 ((rd_T38 x.f0 keys).f1 - Int.tmod (rd_T38 x.f0 keys).f1 least))] (fun k_ => w.heap.size ≤ k_ ∧ k_ ≠ b3) (fun k_ => (w.heap.size ≤ k_ ∧ k_ ≠ b3) ∧ some k_ ≠ v.ownBlock) rfl rfl (fkU_of _ hF.out (fun _ h => h)) (fun _ h => h) (fun k_ hk => ⟨Nat.le_trans (below_size HBE.out) hk, fun e => by have := blk_lt DE3; omega⟩) hN1.out HBE.out (below_size HBE.out) LM.out ?_
        intro v1 w35 hN2 hb2 hg2 hat2
        obtain ⟨A1, cc1, e1⟩ := Kd.N_slice hN2
        subst e1
        have DF1 := hg2.block b1 (blk_lt DE1) (Kd.N_ne hN1.out DE1 (by decide)) |>.trans DE1
        have DF2 := hg2.block b2 (blk_lt DE2) (Kd.N_ne hN1.out DE2 (by decide)) |>.trans DE2
        have DF3 := hg2.block b3 (blk_lt DE3) (Kd.N_ne hN1.out DE3 (by decide)) |>.trans DE3
        have DF4 := hg2.block g4 (blk_lt DE4) (Kd.N_ne hN1.out DE4 (by decide)) |>.trans DE4
        have DF5 := hg2.block g5 (blk_lt DE5) (Kd.N_ne hN1.out DE5 (by decide)) |>.trans DE5
        have hN2 := Aside0.mk hN2
        have HB2 := Aside0.mk hb2
        clear hb2 hg2 hat2
        refine hK.out _ _ ⟨(blk_cell DF1 0).trans rfl, (blk_cell DF2 0).trans rfl, (blk_cell DF3 0).trans rfl, (blk_cell DF4 0).trans rfl, (blk_cell DF5 1).trans rfl⟩ (fun hHeld => ?_)
        clear hK K
        refine norm_ (a' := ?_) ?_ ?_
        rotate_left
        ·show Act.put _ (some 50) _ = _
         simp only [Act.put, List.setIfInBounds_toArray, List.set_cons_zero, List.set_cons_succ, i64_w, i32_w]
         rfl
        refine last_ (i := 16) (N := none) (bl 17 131071) rfl rfl (by kernel_rfl) (by decide) (fun K hK => ?_)
        have hs3 : w35.cell? ⟨b3, 0, none⟩ = some v := (blk_cell DF3 0).trans rfl
        have hf3 := blk_frozen DF3 0
        refine skip_ (w1 := ?_) (by rfl) rfl ?_ ?_
        rotate_left
        ·go_simp
         rfl
        refine hK.out _ _ ?_
        clear hK K
        refine done_ (by kernel_rfl) ?_
        have FIN : PubInv w (w35.setCell ⟨b3, 0, none⟩ _) b1 b2 b3 keys least _ (ys ++ [⟨t, wrap64 ((rd_T38 x.f0 keys).f1 - Int.tmod (rd_T38 x.f0 keys).f1 least)⟩]) :=
         ⟨blk_far DF1 n13 _, blk_far DF2 n23 _, blk_set DF3 0 _, Kd.N_far (p := ⟨b3, 0, none⟩) hN2.out (fun _ hk => hk.2) _, below_set HB2.out g3⟩
        have HFIN := Aside0.mk FIN
        clear FIN
        go_wp2
        go_end0
        exact ⟨rfl, _, by have h_ := HFIN.out; simp only [List.length_append, List.length_cons, List.length_nil, Nat.zero_add] at h_; exact h_⟩
       ·rw [if_neg c8] at h; cases h
    ·rw [if_neg c4] at h
     have c4b : ((rd_T38 x.f0 keys).f0 != 1) = true := by rw [bne_iff_ne]; exact c4
     have e : r = ys := (Option.some.inj h).symm
     clear h c1 c4
     go_enter Try.func36, Try.ntmps36
     go_wp2
     go_end0
     exact HSTAY.out _ (below_alloc (below_alloc (Below.refl _ _) _) _) e
   ·rw [if_neg c3] at h; cases h
  ·rw [if_neg c2] at h
   have c2b : decide ((x.f0.length : Int) ≤ keys) = true := decide_eq_true (by omega)
   have e : r = ys := (Option.some.inj h).symm
   clear h c1 c2
   go_enter Try.func36, Try.ntmps36
   go_wp2
   go_end0
   exact HSTAY.out _ (below_alloc (Below.refl _ _) _) e
 ·unfold release_Publish.step at h
  rw [if_neg c1] at h
  have c1b : (x.f1 != 1) = true := by rw [bne_iff_ne]; exact c1
  have e : r = ys := (Option.some.inj h).symm
  clear h c1
  go_enter Try.func36, Try.ntmps36
  go_wp2
  go_end0
  exact HSTAY.out _ (below_alloc (Below.refl _ _) _) e
theorem PubInv.V {w W : World} {b1 b2 b3 : Nat} {keys least : Int} {v : Value} {ys : List S43} (h : PubInv w W b1 b2 b3 keys least v ys) : Kd.V k43 43 W w.heap.size (fun k_ => w.heap.size ≤ k_) v ys :=
 Kd.V_mono (Kd.N_V h.2.2.2.1) (fun _ hk => hk.1)
def PubRes (w : World) (r : List S43) (e : Ending) (w' : World) : Prop := ∃ v0_ : Value, e = .returned (v0_) ∧ Kd.V k43 43 w' w.heap.size (fun k_ => w.heap.size ≤ k_) v0_ r ∧ Below w.heap.size w w'
theorem rdE_drop {l : List S41} {i : Nat} (h : i < l.length) : l.drop i = rd_T41 l (i : Int) :: l.drop (i + 1) := by
 rw [List.drop_eq_getElem_cons h]; simp [rd_T41, h]
theorem pubRes_nil (w w' : World) (hb : Below w.heap.size w w') : PubRes w [] (.returned (.slice none 0 0)) w' := ⟨_, rfl, Kd.V_nil _ _ _ _ _, hb⟩
set_option maxHeartbeats 1000000 in
set_option maxRecDepth 100000 in
theorem release_Publish.calls (k : Nat) (a0_0 : ByteArray) (a0_1 : ByteArray) (a0_2 : Int) (a1 : Int) (A2 : Option Addr) (c2 : Nat) (l2 : List S41) (r : List S43) (w : World) (hr2 : Kd.C k41 w A2 l2.length l2) (hc2 : l2.length ≤ c2) (h : release_Publish.f k a0_0 a0_1 a0_2 a1 l2 = some r) :
  Calls Try.prog 15 #[.agg #[.string a0_0, .string a0_1, .int .i64 a0_2], .int .i64 a1, .slice A2 l2.length c2] w (PubRes w r) := by
 have hu41 := Try.underlying41
 have HR := Aside0.mk hr2
 have HC := Aside0.mk hc2
 have hlm : l2.length ≤ 9223372036854775807 := hr2.2.1
 clear hr2 hc2
 unfold release_Publish.f at h
 by_cases c1 : a0_2 < 1
 ·rw [if_pos c1] at h
  have e : r = [] := (Option.some.inj h).symm
  subst e
  have c1b : decide (a0_2 < 1) = true := decide_eq_true c1
  clear h c1
  go_enter Try.func15, Try.ntmps15
  go_wp2
  go_ret
  exact pubRes_nil _ _ (below_alloc (below_alloc (Below.refl _ _) _) _)
 rw [if_neg c1] at h
 have c1b : decide (a0_2 < 1) = false := decide_eq_false c1
 by_cases c2 : a1 < 0
 ·rw [if_pos c2] at h
  have e : r = [] := (Option.some.inj h).symm
  subst e
  have c2b : decide (a1 < 0) = true := decide_eq_true c2
  clear h c1 c2
  go_enter Try.func15, Try.ntmps15
  go_wp2
  go_ret
  exact pubRes_nil _ _ (below_alloc (below_alloc (Below.refl _ _) _) _)
 rw [if_neg c2] at h
 have c2b : decide (a1 < 0) = false := decide_eq_false c2
 obtain ⟨bv, hbv, h⟩ := Option.bind_eq_some_iff.1 h
 have HV := Aside0.mk hbv
 have HRA : Aside0 (∀ o o' : Obj, Kd.C k41 ((w.alloc o).alloc o') A2 l2.length l2) := ⟨fun o o' => Kd.C_alloc (Kd.C_alloc HR.out o) o'⟩
 have HBA : Aside0 (∀ (o o' : Obj) (w1 : World), Below ((w.alloc o).alloc o').heap.size ((w.alloc o).alloc o') w1 → Below w.heap.size w w1) := ⟨fun o o' w1 hb => below_step (below_alloc (below_alloc (Below.refl _ _) o) o') hb⟩
 cases bv with
 | false =>
  rw [if_neg (by decide)] at h
  have e : r = [] := (Option.some.inj h).symm
  subst e
  clear h c1 c2 hbv
  go_enter Try.func15, Try.ntmps15
  go_wp2_with (go_at_call 35; refine (bag_Valid.calls k _ _ l2 false _ (HRA.out _ _) HC.out HV.out).mono ?_; rintro e w1 ⟨rfl, hb1⟩)
  go_ret
  exact pubRes_nil _ _ (HBA.out _ _ _ hb1)
 | true =>
  rw [if_pos rfl] at h
  have H0 := Aside0.mk h
  clear h c1 c2 hbv
  have HD : Aside0 (∀ w1, Below ((w.alloc (.cells #[.string a0_0, .string a0_1, .int .i64 a0_2] 23)).alloc (.cells #[.int .i64 a1] 3)).heap.size ((w.alloc (.cells #[.string a0_0, .string a0_1, .int .i64 a0_2] 23)).alloc (.cells #[.int .i64 a1] 3)) w1 → w1.heap[w.heap.size]? = some (.cells #[.string a0_0, .string a0_1, .int .i64 a0_2] 23 (0, 0)) ∧ w1.heap[w.heap.size + 1]? = some (.cells #[.int .i64 a1] 3 (0, 0)) ∧ w.heap.size + 2 ≤ w1.heap.size) := ⟨fun w1 hb => by
   refine ⟨blk_below (blk_alloc (heap_alloc_new w _) _) hb, ?_, by have := hb.size; simp only [World.size_alloc] at this; omega⟩
   have e2 := blk_below (heap_alloc_new (w.alloc (.cells #[.string a0_0, .string a0_1, .int .i64 a0_2] 23)) (.cells #[.int .i64 a1] 3)) hb
   rw [World.size_alloc] at e2
   exact e2⟩
  go_enter Try.func15, Try.ntmps15
  go_wp2_with (go_at_call 35; refine (bag_Valid.calls k _ _ l2 true _ (HRA.out _ _) HC.out HV.out).mono ?_; rintro e w1 ⟨rfl, hb1⟩; have hd1 := HD.out _ hb1; have kr := fun o : Obj => ((blk_cell (blk_alloc hd1.1 o) 2).trans rfl : (w1.alloc o).cell? ⟨w.heap.size, 2, none⟩ = some (.int .i64 a0_2)); have hd1 := Aside0.mk hd1; have hb1 := Aside0.mk (HBA.out _ _ _ hb1))
  have I0 : PubInv w ((w1.alloc (.cells #[.slice none 0 0] 31)).alloc (.cells #[.int .i64 a0_2] 2)) (w.heap.size + 1) (w1.heap.size + 1) w1.heap.size a1 a0_2 (.slice none 0 0) [] := by
   refine ⟨blk_alloc (blk_alloc hd1.out.2.1 _) _, ?_, blk_alloc (heap_alloc_new w1 _) _, Kd.N_nil _ _ _ _ _, below_alloc (below_alloc hb1.out _) _⟩
   have e2 := heap_alloc_new (w1.alloc (.cells #[.slice none 0 0] 31)) (.cells #[.int .i64 a0_2] 2)
   rw [World.size_alloc] at e2
   exact e2
  have I0 := Aside0.mk I0
  have z1 : w.heap.size + 1 ≠ w1.heap.size := by have := hd1.out.2.2; omega
  have z2 : w1.heap.size + 1 ≠ w1.heap.size := by omega
  have z3 : w.heap.size ≤ w1.heap.size := by have := hd1.out.2.2; omega
  have Z := Aside0.mk (And.intro z1 (And.intro z2 z3))
  clear z1 z2 z3 kr
  go_loopw [10] (fun u w' => ∃ (i : Nat) (v : Value) (ys : List S43), i ≤ l2.length ∧ u = .int .i64 i ∧ Aside0 (release_Publish.go k a1 a0_2 (l2.drop i) ys = some r) ∧ Aside0 (PubInv w w' (w.heap.size + 1) (w1.heap.size + 1) w1.heap.size a1 a0_2 v ys)) (fun u _ => l2.length - (intOf u).toNat)
  case atStart => exact ⟨0, _, [], Nat.zero_le _, rfl, H0, I0⟩
  case round =>
   clear I0 H0
   obtain ⟨i, v, ys, hi, rfl, HA, HI⟩ := hrel
   by_cases hlt : i < l2.length
   ·have H := HA.out
    rw [rdE_drop hlt] at H
    unfold release_Publish.go at H
    obtain ⟨ys1, hs, H⟩ := Option.bind_eq_some_iff.1 H
    have q0 : (i : Int) < (l2.length : Int) := by omega
    obtain ⟨ad, A0, c0, eA, x0, x1, l0, g0⟩ := at_T41 (Kd.C_below HR.out HI.out.2.2.2.2) (i : Int) (by omega) (by omega)
    cases eA
    rw [Int.toNat_natCast] at x0 x1
    have HS := Aside0.mk hs
    have HH := Aside0.mk H
    have HG := Aside0.mk g0
    have HL := Aside0.mk l0
    clear hs H HA g0 l0
    go_wp2_with (go_at_call 36; refine (release_Publish_1.calls k a1 a0_2 (rd_T41 l2 (i : Int)) A0 c0 ys ys1 w _ _ _ _ v HG.out HL.out HI.out Z.out.2.2 Z.out.1 Z.out.2.1 HS.out).mono ?_; rintro e w2 ⟨rfl, hp⟩; have hp := Aside0.mk hp)
    obtain ⟨v', hI'⟩ := hp.out
    go_roundw
    case rel => exact ⟨i + 1, v', ys1, by omega, by go_num, HH, ⟨hI'⟩⟩
    case measure => simp [intOf]; omega
   ·obtain rfl : i = l2.length := by omega
    have H := HA.out
    rw [List.drop_length] at H
    unfold release_Publish.go at H
    have e := Option.some.inj H
    subst e
    have hcz : wr.cell? ⟨w1.heap.size, 0, none⟩ = some v := (blk_cell HI.out.2.2.1 0).trans rfl
    have HV2 := Aside0.mk HI.out.V
    have HB2 := Aside0.mk HI.out.2.2.2.2
    clear H HA
    obtain ⟨A9, c9, e9⟩ := Kd.N_slice HI.out.2.2.2.1
    subst e9
    go_wp2
    go_ret
    exact ⟨_, rfl, HV2.out, HB2.out⟩
end Go.Proofs.Ytjhnpaenhdbhpaa.P
namespace Go.Proofs.Ytjhnpaenhdbhpaa.P
open Go.RowKit Go.Proofs.YtjhnpaenhdbhpaaW.PrintWords Go.Proofs.YtjhnpaenhdbhpaaW.PrintLast Go.Proofs.YtjhnpaenhdbhpaaW.PrintMore
attribute [local go_sem] max2_int min2_int max_two min_two max_three min_three max_four min_four
set_option linter.unusedVariables false
set_option linter.unusedSimpArgs false
def erasureref01_Valid.f (a0_0 : Int) (a0_1 : Int) (a0_2 : ByteArray) : Option (Bool) := if a0_0 = 0 then (if a0_1 = 0 then (some (a0_2.toList == ([] : List UInt8))) else (some false)) else (if a0_0 = 1 then (if a0_1 ≥ (-4294967296) then (if a0_1 ≤ 4294967296 then (some (a0_2.toList == ([] : List UInt8))) else (some false)) else (some false)) else (if a0_0 = 2 then (if a0_1 = 0 then (some (decide ((a0_2.size : Int) ≤ 32))) else (some false)) else (some false)))
set_option maxHeartbeats 8000000 in
set_option maxRecDepth 100000 in
theorem erasureref01_Valid.calls (a0_0 : Int) (a0_1 : Int) (a0_2 : ByteArray) (r : Bool) (w : World) (h : erasureref01_Valid.f a0_0 a0_1 a0_2 = some r) :
  Calls Try.prog 44 #[.agg #[.int .i64 a0_0, .int .i64 a0_1, .string a0_2]] w fun e w' => e = .returned (.bool r) ∧ Below w.heap.size w w' := by
 have hu38 := Try.underlying38
 have HB := Aside0.mk (Below.refl w.heap.size w)
 have H : (if a0_0 = 0 then (if a0_1 = 0 then (some (a0_2.toList == ([] : List UInt8))) else (some false)) else (if a0_0 = 1 then (if a0_1 ≥ (-4294967296) then (if a0_1 ≤ 4294967296 then (some (a0_2.toList == ([] : List UInt8))) else (some false)) else (some false)) else (if a0_0 = 2 then (if a0_1 = 0 then (some (decide ((a0_2.size : Int) ≤ 32))) else (some false)) else (some false)))) = some r := h
 clear h
 by_cases c2 : a0_0 = 0
 ·rw [if_pos c2] at H
  have c2b0 : (a0_0 == 0) = true := beq_iff_eq.mpr c2
  have c2b1 : (a0_0 != 0) = false := bne_eq_false_iff_eq.mpr c2
  clear c2
  by_cases c3 : a0_1 = 0
  ·rw [if_pos c3] at H
   have c3b0 : (a0_1 == 0) = true := beq_iff_eq.mpr c3
   have c3b1 : (a0_1 != 0) = false := bne_eq_false_iff_eq.mpr c3
   clear c3
   obtain rfl := Option.some.inj H
   go_enter Try.func44, Try.ntmps44
   go_wp2_with (first | ((with_reducible refine gate_dst (N := 1) rfl ?_); (try (refine gate_guard (by rfl) ?_; dsimp only)); refine box_event ?hg (N := 1) ?hd (cs := #[.int .i64 a0_0, .int .i64 a0_1, .string a0_2]) (t := 38) ?hr ?_; (case hd => rfl); (case hg => rfl); (case hr => first | (go_simp; done) | (go_simp; rfl)); intro gb135 hg w4 hbox hb; have n0_ := Aside0.mk (below_step (by repeat (first | (with_reducible first | exact HB.out | apply below_alloc | apply pw_below_drewN | apply below_drew1) | exact HB.out)) hb); have n1_ := Aside0.mk (hbox); have n2_ := Aside0.mk ((by rw [hg]; exact (below_size (by repeat (first | (with_reducible first | exact HB.out | apply below_alloc | apply pw_below_drewN | apply below_drew1) | exact HB.out))) : w.heap.size ≤ gb135)); have n3_ := Aside0.mk ((by rw [hg]; exact (below_size (by repeat (first | (with_reducible first | exact HB.out | apply below_alloc | apply pw_below_drewN | apply below_drew1) | exact HB.out))) : w.heap.size ≤ gb135)); clear HB; have HB := n0_; have BK135 := n1_; have GW135 := n2_; have GE135 := n3_; clear n0_ n1_ n2_ n3_; clear hb hbox hg; have hcz5_0 : w4.cell? ⟨gb135, 0, none⟩ = some (.int .i64 a0_0) := (blk_cell BK135.out 0).trans rfl; have hcz5_1 : w4.cell? ⟨gb135, 1, none⟩ = some (.int .i64 a0_1) := (blk_cell BK135.out 1).trans rfl; have hcz5_2 : w4.cell? ⟨gb135, 2, none⟩ = some (.string a0_2) := (blk_cell BK135.out 2).trans rfl; have hfz5_0 := blk_frozen BK135.out 0; have hfz5_1 := blk_frozen BK135.out 1; have hfz5_2 := blk_frozen BK135.out 2))
   go_ret
   exact ⟨by first | rfl | (simp [errW_none, errW_some] <;> rfl) | (simp [*, errW_none, errW_some] <;> rfl), by repeat (first | (with_reducible first | exact HB.out | apply below_alloc | apply pw_below_drewN | apply below_drew1 | refine below_set ?_ GE135.out) | exact HB.out)⟩
  ·rw [if_neg c3] at H
   have c3b0 : (a0_1 == 0) = false := beq_eq_false_iff_ne.mpr c3
   have c3b1 : (a0_1 != 0) = true := bne_iff_ne.mpr c3
   obtain rfl := Option.some.inj H
   go_enter Try.func44, Try.ntmps44
   go_wp2_with (first | ((with_reducible refine gate_dst (N := 1) rfl ?_); (try (refine gate_guard (by rfl) ?_; dsimp only)); refine box_event ?hg (N := 1) ?hd (cs := #[.int .i64 a0_0, .int .i64 a0_1, .string a0_2]) (t := 38) ?hr ?_; (case hd => rfl); (case hg => rfl); (case hr => first | (go_simp; done) | (go_simp; rfl)); intro gb135 hg w6 hbox hb; have n0_ := Aside0.mk (below_step (by repeat (first | (with_reducible first | exact HB.out | apply below_alloc | apply pw_below_drewN | apply below_drew1) | exact HB.out)) hb); have n1_ := Aside0.mk (hbox); have n2_ := Aside0.mk ((by rw [hg]; exact (below_size (by repeat (first | (with_reducible first | exact HB.out | apply below_alloc | apply pw_below_drewN | apply below_drew1) | exact HB.out))) : w.heap.size ≤ gb135)); have n3_ := Aside0.mk ((by rw [hg]; exact (below_size (by repeat (first | (with_reducible first | exact HB.out | apply below_alloc | apply pw_below_drewN | apply below_drew1) | exact HB.out))) : w.heap.size ≤ gb135)); clear HB; have HB := n0_; have BK135 := n1_; have GW135 := n2_; have GE135 := n3_; clear n0_ n1_ n2_ n3_; clear hb hbox hg; have hcz7_0 : w6.cell? ⟨gb135, 0, none⟩ = some (.int .i64 a0_0) := (blk_cell BK135.out 0).trans rfl; have hcz7_1 : w6.cell? ⟨gb135, 1, none⟩ = some (.int .i64 a0_1) := (blk_cell BK135.out 1).trans rfl; have hcz7_2 : w6.cell? ⟨gb135, 2, none⟩ = some (.string a0_2) := (blk_cell BK135.out 2).trans rfl; have hfz7_0 := blk_frozen BK135.out 0; have hfz7_1 := blk_frozen BK135.out 1; have hfz7_2 := blk_frozen BK135.out 2))
   go_ret
   exact ⟨by first | rfl | (simp [errW_none, errW_some] <;> rfl) | (simp [*, errW_none, errW_some] <;> rfl), by repeat (first | (with_reducible first | exact HB.out | apply below_alloc | apply pw_below_drewN | apply below_drew1 | refine below_set ?_ GE135.out) | exact HB.out)⟩
 ·rw [if_neg c2] at H
  have c2b0 : (a0_0 == 0) = false := beq_eq_false_iff_ne.mpr c2
  have c2b1 : (a0_0 != 0) = true := bne_iff_ne.mpr c2
  by_cases c8 : a0_0 = 1
  ·rw [if_pos c8] at H
   have c8b0 : (a0_0 == 1) = true := beq_iff_eq.mpr c8
   have c8b1 : (a0_0 != 1) = false := bne_eq_false_iff_eq.mpr c8
   clear c8
   by_cases c9 : a0_1 ≥ (-4294967296)
   ·rw [if_pos c9] at H
    have c9b0 : decide ((-4294967296) ≤ a0_1) = true := decide_eq_true c9
    clear c9
    by_cases c10 : a0_1 ≤ 4294967296
    ·rw [if_pos c10] at H
     have c10b0 : decide (a0_1 ≤ 4294967296) = true := decide_eq_true c10
     clear c10
     obtain rfl := Option.some.inj H
     go_enter Try.func44, Try.ntmps44
     go_wp2_with (first | ((with_reducible refine gate_dst (N := 1) rfl ?_); (try (refine gate_guard (by rfl) ?_; dsimp only)); refine box_event ?hg (N := 1) ?hd (cs := #[.int .i64 a0_0, .int .i64 a0_1, .string a0_2]) (t := 38) ?hr ?_; (case hd => rfl); (case hg => rfl); (case hr => first | (go_simp; done) | (go_simp; rfl)); intro gb135 hg w11 hbox hb; have n0_ := Aside0.mk (below_step (by repeat (first | (with_reducible first | exact HB.out | apply below_alloc | apply pw_below_drewN | apply below_drew1) | exact HB.out)) hb); have n1_ := Aside0.mk (hbox); have n2_ := Aside0.mk ((by rw [hg]; exact (below_size (by repeat (first | (with_reducible first | exact HB.out | apply below_alloc | apply pw_below_drewN | apply below_drew1) | exact HB.out))) : w.heap.size ≤ gb135)); have n3_ := Aside0.mk ((by rw [hg]; exact (below_size (by repeat (first | (with_reducible first | exact HB.out | apply below_alloc | apply pw_below_drewN | apply below_drew1) | exact HB.out))) : w.heap.size ≤ gb135)); clear HB; have HB := n0_; have BK135 := n1_; have GW135 := n2_; have GE135 := n3_; clear n0_ n1_ n2_ n3_; clear hb hbox hg; have hcz12_0 : w11.cell? ⟨gb135, 0, none⟩ = some (.int .i64 a0_0) := (blk_cell BK135.out 0).trans rfl; have hcz12_1 : w11.cell? ⟨gb135, 1, none⟩ = some (.int .i64 a0_1) := (blk_cell BK135.out 1).trans rfl; have hcz12_2 : w11.cell? ⟨gb135, 2, none⟩ = some (.string a0_2) := (blk_cell BK135.out 2).trans rfl; have hfz12_0 := blk_frozen BK135.out 0; have hfz12_1 := blk_frozen BK135.out 1; have hfz12_2 := blk_frozen BK135.out 2))
     go_ret
     exact ⟨by first | rfl | (simp [errW_none, errW_some] <;> rfl) | (simp [*, errW_none, errW_some] <;> rfl), by repeat (first | (with_reducible first | exact HB.out | apply below_alloc | apply pw_below_drewN | apply below_drew1 | refine below_set ?_ GE135.out) | exact HB.out)⟩
    ·rw [if_neg c10] at H
     have c10b0 : decide (a0_1 ≤ 4294967296) = false := decide_eq_false c10
     clear c10
     obtain rfl := Option.some.inj H
     go_enter Try.func44, Try.ntmps44
     go_wp2_with (first | ((with_reducible refine gate_dst (N := 1) rfl ?_); (try (refine gate_guard (by rfl) ?_; dsimp only)); refine box_event ?hg (N := 1) ?hd (cs := #[.int .i64 a0_0, .int .i64 a0_1, .string a0_2]) (t := 38) ?hr ?_; (case hd => rfl); (case hg => rfl); (case hr => first | (go_simp; done) | (go_simp; rfl)); intro gb135 hg w13 hbox hb; have n0_ := Aside0.mk (below_step (by repeat (first | (with_reducible first | exact HB.out | apply below_alloc | apply pw_below_drewN | apply below_drew1) | exact HB.out)) hb); have n1_ := Aside0.mk (hbox); have n2_ := Aside0.mk ((by rw [hg]; exact (below_size (by repeat (first | (with_reducible first | exact HB.out | apply below_alloc | apply pw_below_drewN | apply below_drew1) | exact HB.out))) : w.heap.size ≤ gb135)); have n3_ := Aside0.mk ((by rw [hg]; exact (below_size (by repeat (first | (with_reducible first | exact HB.out | apply below_alloc | apply pw_below_drewN | apply below_drew1) | exact HB.out))) : w.heap.size ≤ gb135)); clear HB; have HB := n0_; have BK135 := n1_; have GW135 := n2_; have GE135 := n3_; clear n0_ n1_ n2_ n3_; clear hb hbox hg; have hcz14_0 : w13.cell? ⟨gb135, 0, none⟩ = some (.int .i64 a0_0) := (blk_cell BK135.out 0).trans rfl; have hcz14_1 : w13.cell? ⟨gb135, 1, none⟩ = some (.int .i64 a0_1) := (blk_cell BK135.out 1).trans rfl; have hcz14_2 : w13.cell? ⟨gb135, 2, none⟩ = some (.string a0_2) := (blk_cell BK135.out 2).trans rfl; have hfz14_0 := blk_frozen BK135.out 0; have hfz14_1 := blk_frozen BK135.out 1; have hfz14_2 := blk_frozen BK135.out 2))
     go_ret
     exact ⟨by first | rfl | (simp [errW_none, errW_some] <;> rfl) | (simp [*, errW_none, errW_some] <;> rfl), by repeat (first | (with_reducible first | exact HB.out | apply below_alloc | apply pw_below_drewN | apply below_drew1 | refine below_set ?_ GE135.out) | exact HB.out)⟩
   ·rw [if_neg c9] at H
    have c9b0 : decide ((-4294967296) ≤ a0_1) = false := decide_eq_false c9
    clear c9
    obtain rfl := Option.some.inj H
    go_enter Try.func44, Try.ntmps44
    go_wp2_with (first | ((with_reducible refine gate_dst (N := 1) rfl ?_); (try (refine gate_guard (by rfl) ?_; dsimp only)); refine box_event ?hg (N := 1) ?hd (cs := #[.int .i64 a0_0, .int .i64 a0_1, .string a0_2]) (t := 38) ?hr ?_; (case hd => rfl); (case hg => rfl); (case hr => first | (go_simp; done) | (go_simp; rfl)); intro gb135 hg w15 hbox hb; have n0_ := Aside0.mk (below_step (by repeat (first | (with_reducible first | exact HB.out | apply below_alloc | apply pw_below_drewN | apply below_drew1) | exact HB.out)) hb); have n1_ := Aside0.mk (hbox); have n2_ := Aside0.mk ((by rw [hg]; exact (below_size (by repeat (first | (with_reducible first | exact HB.out | apply below_alloc | apply pw_below_drewN | apply below_drew1) | exact HB.out))) : w.heap.size ≤ gb135)); have n3_ := Aside0.mk ((by rw [hg]; exact (below_size (by repeat (first | (with_reducible first | exact HB.out | apply below_alloc | apply pw_below_drewN | apply below_drew1) | exact HB.out))) : w.heap.size ≤ gb135)); clear HB; have HB := n0_; have BK135 := n1_; have GW135 := n2_; have GE135 := n3_; clear n0_ n1_ n2_ n3_; clear hb hbox hg; have hcz16_0 : w15.cell? ⟨gb135, 0, none⟩ = some (.int .i64 a0_0) := (blk_cell BK135.out 0).trans rfl; have hcz16_1 : w15.cell? ⟨gb135, 1, none⟩ = some (.int .i64 a0_1) := (blk_cell BK135.out 1).trans rfl; have hcz16_2 : w15.cell? ⟨gb135, 2, none⟩ = some (.string a0_2) := (blk_cell BK135.out 2).trans rfl; have hfz16_0 := blk_frozen BK135.out 0; have hfz16_1 := blk_frozen BK135.out 1; have hfz16_2 := blk_frozen BK135.out 2))
    go_ret
    exact ⟨by first | rfl | (simp [errW_none, errW_some] <;> rfl) | (simp [*, errW_none, errW_some] <;> rfl), by repeat (first | (with_reducible first | exact HB.out | apply below_alloc | apply pw_below_drewN | apply below_drew1 | refine below_set ?_ GE135.out) | exact HB.out)⟩
  ·rw [if_neg c8] at H
   have c8b0 : (a0_0 == 1) = false := beq_eq_false_iff_ne.mpr c8
   have c8b1 : (a0_0 != 1) = true := bne_iff_ne.mpr c8
   by_cases c17 : a0_0 = 2
   ·rw [if_pos c17] at H
    have c17b0 : (a0_0 == 2) = true := beq_iff_eq.mpr c17
    have c17b1 : (a0_0 != 2) = false := bne_eq_false_iff_eq.mpr c17
    clear c17
    by_cases c18 : a0_1 = 0
    ·rw [if_pos c18] at H
     have c18b0 : (a0_1 == 0) = true := beq_iff_eq.mpr c18
     have c18b1 : (a0_1 != 0) = false := bne_eq_false_iff_eq.mpr c18
     clear c18
     obtain rfl := Option.some.inj H
     go_enter Try.func44, Try.ntmps44
     go_wp2_with (first | ((with_reducible refine gate_dst (N := 1) rfl ?_); (try (refine gate_guard (by rfl) ?_; dsimp only)); refine box_event ?hg (N := 1) ?hd (cs := #[.int .i64 a0_0, .int .i64 a0_1, .string a0_2]) (t := 38) ?hr ?_; (case hd => rfl); (case hg => rfl); (case hr => first | (go_simp; done) | (go_simp; rfl)); intro gb135 hg w19 hbox hb; have n0_ := Aside0.mk (below_step (by repeat (first | (with_reducible first | exact HB.out | apply below_alloc | apply pw_below_drewN | apply below_drew1) | exact HB.out)) hb); have n1_ := Aside0.mk (hbox); have n2_ := Aside0.mk ((by rw [hg]; exact (below_size (by repeat (first | (with_reducible first | exact HB.out | apply below_alloc | apply pw_below_drewN | apply below_drew1) | exact HB.out))) : w.heap.size ≤ gb135)); have n3_ := Aside0.mk ((by rw [hg]; exact (below_size (by repeat (first | (with_reducible first | exact HB.out | apply below_alloc | apply pw_below_drewN | apply below_drew1) | exact HB.out))) : w.heap.size ≤ gb135)); clear HB; have HB := n0_; have BK135 := n1_; have GW135 := n2_; have GE135 := n3_; clear n0_ n1_ n2_ n3_; clear hb hbox hg; have hcz20_0 : w19.cell? ⟨gb135, 0, none⟩ = some (.int .i64 a0_0) := (blk_cell BK135.out 0).trans rfl; have hcz20_1 : w19.cell? ⟨gb135, 1, none⟩ = some (.int .i64 a0_1) := (blk_cell BK135.out 1).trans rfl; have hcz20_2 : w19.cell? ⟨gb135, 2, none⟩ = some (.string a0_2) := (blk_cell BK135.out 2).trans rfl; have hfz20_0 := blk_frozen BK135.out 0; have hfz20_1 := blk_frozen BK135.out 1; have hfz20_2 := blk_frozen BK135.out 2))
     go_ret
     exact ⟨by first | rfl | (simp [errW_none, errW_some] <;> rfl) | (simp [*, errW_none, errW_some] <;> rfl), by repeat (first | (with_reducible first | exact HB.out | apply below_alloc | apply pw_below_drewN | apply below_drew1 | refine below_set ?_ GE135.out) | exact HB.out)⟩
    ·rw [if_neg c18] at H
     have c18b0 : (a0_1 == 0) = false := beq_eq_false_iff_ne.mpr c18
     have c18b1 : (a0_1 != 0) = true := bne_iff_ne.mpr c18
     obtain rfl := Option.some.inj H
     go_enter Try.func44, Try.ntmps44
     go_wp2_with (first | ((with_reducible refine gate_dst (N := 1) rfl ?_); (try (refine gate_guard (by rfl) ?_; dsimp only)); refine box_event ?hg (N := 1) ?hd (cs := #[.int .i64 a0_0, .int .i64 a0_1, .string a0_2]) (t := 38) ?hr ?_; (case hd => rfl); (case hg => rfl); (case hr => first | (go_simp; done) | (go_simp; rfl)); intro gb135 hg w21 hbox hb; have n0_ := Aside0.mk (below_step (by repeat (first | (with_reducible first | exact HB.out | apply below_alloc | apply pw_below_drewN | apply below_drew1) | exact HB.out)) hb); have n1_ := Aside0.mk (hbox); have n2_ := Aside0.mk ((by rw [hg]; exact (below_size (by repeat (first | (with_reducible first | exact HB.out | apply below_alloc | apply pw_below_drewN | apply below_drew1) | exact HB.out))) : w.heap.size ≤ gb135)); have n3_ := Aside0.mk ((by rw [hg]; exact (below_size (by repeat (first | (with_reducible first | exact HB.out | apply below_alloc | apply pw_below_drewN | apply below_drew1) | exact HB.out))) : w.heap.size ≤ gb135)); clear HB; have HB := n0_; have BK135 := n1_; have GW135 := n2_; have GE135 := n3_; clear n0_ n1_ n2_ n3_; clear hb hbox hg; have hcz22_0 : w21.cell? ⟨gb135, 0, none⟩ = some (.int .i64 a0_0) := (blk_cell BK135.out 0).trans rfl; have hcz22_1 : w21.cell? ⟨gb135, 1, none⟩ = some (.int .i64 a0_1) := (blk_cell BK135.out 1).trans rfl; have hcz22_2 : w21.cell? ⟨gb135, 2, none⟩ = some (.string a0_2) := (blk_cell BK135.out 2).trans rfl; have hfz22_0 := blk_frozen BK135.out 0; have hfz22_1 := blk_frozen BK135.out 1; have hfz22_2 := blk_frozen BK135.out 2))
     go_ret
     exact ⟨by first | rfl | (simp [errW_none, errW_some] <;> rfl) | (simp [*, errW_none, errW_some] <;> rfl), by repeat (first | (with_reducible first | exact HB.out | apply below_alloc | apply pw_below_drewN | apply below_drew1 | refine below_set ?_ GE135.out) | exact HB.out)⟩
   ·rw [if_neg c17] at H
    have c17b0 : (a0_0 == 2) = false := beq_eq_false_iff_ne.mpr c17
    have c17b1 : (a0_0 != 2) = true := bne_iff_ne.mpr c17
    obtain rfl := Option.some.inj H
    go_enter Try.func44, Try.ntmps44
    go_wp2_with (first | ((with_reducible refine gate_dst (N := 1) rfl ?_); (try (refine gate_guard (by rfl) ?_; dsimp only)); refine box_event ?hg (N := 1) ?hd (cs := #[.int .i64 a0_0, .int .i64 a0_1, .string a0_2]) (t := 38) ?hr ?_; (case hd => rfl); (case hg => rfl); (case hr => first | (go_simp; done) | (go_simp; rfl)); intro gb135 hg w23 hbox hb; have n0_ := Aside0.mk (below_step (by repeat (first | (with_reducible first | exact HB.out | apply below_alloc | apply pw_below_drewN | apply below_drew1) | exact HB.out)) hb); have n1_ := Aside0.mk (hbox); have n2_ := Aside0.mk ((by rw [hg]; exact (below_size (by repeat (first | (with_reducible first | exact HB.out | apply below_alloc | apply pw_below_drewN | apply below_drew1) | exact HB.out))) : w.heap.size ≤ gb135)); have n3_ := Aside0.mk ((by rw [hg]; exact (below_size (by repeat (first | (with_reducible first | exact HB.out | apply below_alloc | apply pw_below_drewN | apply below_drew1) | exact HB.out))) : w.heap.size ≤ gb135)); clear HB; have HB := n0_; have BK135 := n1_; have GW135 := n2_; have GE135 := n3_; clear n0_ n1_ n2_ n3_; clear hb hbox hg; have hcz24_0 : w23.cell? ⟨gb135, 0, none⟩ = some (.int .i64 a0_0) := (blk_cell BK135.out 0).trans rfl; have hcz24_1 : w23.cell? ⟨gb135, 1, none⟩ = some (.int .i64 a0_1) := (blk_cell BK135.out 1).trans rfl; have hcz24_2 : w23.cell? ⟨gb135, 2, none⟩ = some (.string a0_2) := (blk_cell BK135.out 2).trans rfl; have hfz24_0 := blk_frozen BK135.out 0; have hfz24_1 := blk_frozen BK135.out 1; have hfz24_2 := blk_frozen BK135.out 2))
    go_ret
    exact ⟨by first | rfl | (simp [errW_none, errW_some] <;> rfl) | (simp [*, errW_none, errW_some] <;> rfl), by repeat (first | (with_reducible first | exact HB.out | apply below_alloc | apply pw_below_drewN | apply below_drew1 | refine below_set ?_ GE135.out) | exact HB.out)⟩
end Go.Proofs.Ytjhnpaenhdbhpaa.P
namespace Go.Proofs.Ytjhnpaenhdbhpaa.P
open Go.RowKit Go.Proofs.YtjhnpaenhdbhpaaW.PrintWords Go.Proofs.YtjhnpaenhdbhpaaW.PrintLast Go.Proofs.YtjhnpaenhdbhpaaW.PrintMore
attribute [local go_sem] max2_int min2_int max_two min_two max_three min_three max_four min_four
set_option linter.unusedVariables false
set_option linter.unusedSimpArgs false
def erasureref01_Clean.f (a0_0 : Int) (a0_1 : Int) (a0_2 : ByteArray) : Option (Int × Int × ByteArray) := (erasureref01_Valid.f a0_0 a0_1 a0_2).bind fun t138 => (if t138 = true then (some (a0_0, a0_1, a0_2)) else (some (0, 0, (⟨#[]⟩ : ByteArray))))
set_option maxHeartbeats 8000000 in
set_option maxRecDepth 100000 in
theorem erasureref01_Clean.calls (a0_0 : Int) (a0_1 : Int) (a0_2 : ByteArray) (r1 : Int) (r2 : Int) (r3 : ByteArray) (w : World) (h : erasureref01_Clean.f a0_0 a0_1 a0_2 = some (r1, r2, r3)) :
  Calls Try.prog 39 #[.agg #[.int .i64 a0_0, .int .i64 a0_1, .string a0_2]] w fun e w' => e = .returned (.agg #[.int .i64 r1, .int .i64 r2, .string r3]) ∧ Below w.heap.size w w' := by
 have hu38 := Try.underlying38
 have HB := Aside0.mk (Below.refl w.heap.size w)
 have H : ((erasureref01_Valid.f a0_0 a0_1 a0_2).bind fun t138 => (if t138 = true then (some (a0_0, a0_1, a0_2)) else (some (0, 0, (⟨#[]⟩ : ByteArray))))) = some (r1, r2, r3) := h
 clear h
 replace H := Option.bind_eq_some_iff.mp H
 obtain ⟨t138, A20, H⟩ := H
 replace H : (if t138 = true then (some (a0_0, a0_1, a0_2)) else (some (0, 0, (⟨#[]⟩ : ByteArray)))) = some (r1, r2, r3) := H
 have A2 := Aside0.mk A20
 clear A20
 by_cases c3 : t138 = true
 ·subst c3
  have H1 : (some (a0_0, a0_1, a0_2)) = some (r1, r2, r3) := by rw [if_pos rfl] at H; exact H
  clear H
  have H := H1
  clear H1
  simp only [Option.some.injEq, Prod.mk.injEq] at H
  obtain ⟨rfl, rfl, rfl⟩ := H
  go_enter Try.func39, Try.ntmps39
  go_wp2_with (first | ((with_reducible refine gate_dst (N := 1) rfl ?_); refine box_event ?hg (N := 1) ?hd (cs := #[.int .i64 a0_0, .int .i64 a0_1, .string a0_2]) (t := 38) ?hr ?_; (case hd => rfl); (case hg => rfl); (case hr => first | (go_simp; done) | (go_simp; rfl)); intro gb136 hg w4 hbox hb; have n0_ := Aside0.mk (below_step (by repeat (first | (with_reducible first | exact HB.out | apply below_alloc | apply pw_below_drewN | apply below_drew1) | exact HB.out)) hb); have n1_ := Aside0.mk (hbox); have n2_ := Aside0.mk ((by rw [hg]; exact (below_size (by repeat (first | (with_reducible first | exact HB.out | apply below_alloc | apply pw_below_drewN | apply below_drew1) | exact HB.out))) : w.heap.size ≤ gb136)); have n3_ := Aside0.mk ((by rw [hg]; exact (below_size (by repeat (first | (with_reducible first | exact HB.out | apply below_alloc | apply pw_below_drewN | apply below_drew1) | exact HB.out))) : w.heap.size ≤ gb136)); clear HB; have HB := n0_; have BK136 := n1_; have GW136 := n2_; have GE136 := n3_; clear n0_ n1_ n2_ n3_; clear hb hbox hg) | ((with_reducible refine gate_dst (N := 2) rfl ?_); refine box_event ?hg (N := 2) ?hd (cs := #[.int .i64 0, .int .i64 0, .string (⟨#[]⟩ : ByteArray)]) (t := 38) ?hr ?_; (case hd => rfl); (case hg => rfl); (case hr => first | (go_simp; done) | (go_simp; rfl)); intro gb137 hg w5 hbox hb; have n0_ := Aside0.mk (blk_below (g := gb136) (o := .cells #[.int .i64 a0_0, .int .i64 a0_1, .string a0_2] 38 (0, 0)) (by (with_reducible repeat (first | refine blk_drewN ?_ _ | refine blk_drew ?_ | refine blk_alloc ?_ _)); exact BK136.out) hb); have n1_ := Aside0.mk (below_step (by repeat (first | (with_reducible first | exact HB.out | apply below_alloc | apply pw_below_drewN | apply below_drew1 | refine below_set ?_ GE136.out) | exact HB.out)) hb); have n2_ := Aside0.mk (hbox); have n3_ := Aside0.mk ((by rw [hg]; exact (below_size (by repeat (first | (with_reducible first | exact HB.out | apply below_alloc | apply pw_below_drewN | apply below_drew1 | refine below_set ?_ GE136.out) | exact HB.out))) : w.heap.size ≤ gb137)); have n4_ := Aside0.mk ((by rw [hg]; exact (below_size (by repeat (first | (with_reducible first | exact HB.out | apply below_alloc | apply pw_below_drewN | apply below_drew1 | refine below_set ?_ GE136.out) | exact HB.out))) : w.heap.size ≤ gb137)); have n5_ := Aside0.mk ((by rw [hg]; exact Nat.ne_of_lt (blk_lt (g := gb136) (o := .cells #[.int .i64 a0_0, .int .i64 a0_1, .string a0_2] 38 (0, 0)) (by (with_reducible repeat (first | refine blk_drewN ?_ _ | refine blk_drew ?_ | refine blk_alloc ?_ _)); exact BK136.out)) : gb136 ≠ gb137)); have n6_ := Aside0.mk ((by rw [hg]; exact Nat.ne_of_gt (blk_lt (g := gb136) (o := .cells #[.int .i64 a0_0, .int .i64 a0_1, .string a0_2] 38 (0, 0)) (by (with_reducible repeat (first | refine blk_drewN ?_ _ | refine blk_drew ?_ | refine blk_alloc ?_ _)); exact BK136.out)) : gb137 ≠ gb136)); clear BK136; clear HB; have BK136 := n0_; have HB := n1_; have BK137 := n2_; have GW137 := n3_; have GE137 := n4_; have NB136_137 := n5_; have NB137_136 := n6_; clear n0_ n1_ n2_ n3_ n4_ n5_ n6_; clear hb hbox hg; have hnb6 := NB136_137.out; have hnc6 := NB137_136.out; have hcz7_0 : w5.cell? ⟨gb136, 0, none⟩ = some (.int .i64 a0_0) := (blk_cell BK136.out 0).trans rfl; have hcz7_1 : w5.cell? ⟨gb136, 1, none⟩ = some (.int .i64 a0_1) := (blk_cell BK136.out 1).trans rfl; have hcz7_2 : w5.cell? ⟨gb136, 2, none⟩ = some (.string a0_2) := (blk_cell BK136.out 2).trans rfl; have hfz7_0 := blk_frozen BK136.out 0; have hfz7_1 := blk_frozen BK136.out 1; have hfz7_2 := blk_frozen BK136.out 2) | ((with_reducible refine gate_callee (f := 44) rfl ?_); refine goesL_ (some 4) rfl rfl Try.func44 (by kernel_rfl) rfl #[.agg #[.int .i64 a0_0, .int .i64 a0_1, .string a0_2]] rfl (by (try simp only [List.map_toArray, List.map_cons, List.map_nil]); first | done | rfl | (simp only [List.length_drop, List.length_take]; rfl)) ?_; (with_reducible refine (erasureref01_Valid.calls a0_0 a0_1 a0_2 true _ A2.out).mono ?_); rintro e w8 ⟨rfl, hb⟩; refine ⟨_, rfl, ?_⟩; have n0_ := Aside0.mk (blk_below (g := gb136) (o := .cells #[.int .i64 a0_0, .int .i64 a0_1, .string a0_2] 38 (0, 0)) (by (with_reducible repeat (first | refine blk_drewN ?_ _ | refine blk_drew ?_ | refine blk_alloc ?_ _)); exact BK136.out) hb); have n1_ := Aside0.mk (blk_below (g := gb137) (o := .cells #[.int .i64 0, .int .i64 0, .string (⟨#[]⟩ : ByteArray)] 38 (0, 0)) (by (with_reducible repeat (first | refine blk_drewN ?_ _ | refine blk_drew ?_ | refine blk_alloc ?_ _)); exact BK137.out) hb); have n2_ := Aside0.mk (below_step (by repeat (first | (with_reducible first | exact HB.out | apply below_alloc | apply pw_below_drewN | apply below_drew1 | refine below_set ?_ GE136.out | refine below_set ?_ GE137.out) | exact HB.out)) hb); clear BK136; clear BK137; clear HB; have BK136 := n0_; have BK137 := n1_; have HB := n2_; clear n0_ n1_ n2_; (try clear hb); (try clear hb2); (try clear hk); (try clear hi); have hcz9_0 : w8.cell? ⟨gb136, 0, none⟩ = some (.int .i64 a0_0) := (blk_cell BK136.out 0).trans rfl; have hcz9_1 : w8.cell? ⟨gb136, 1, none⟩ = some (.int .i64 a0_1) := (blk_cell BK136.out 1).trans rfl; have hcz9_2 : w8.cell? ⟨gb136, 2, none⟩ = some (.string a0_2) := (blk_cell BK136.out 2).trans rfl; have hfz9_0 := blk_frozen BK136.out 0; have hfz9_1 := blk_frozen BK136.out 1; have hfz9_2 := blk_frozen BK136.out 2; have hcz10_0 : w8.cell? ⟨gb137, 0, none⟩ = some (.int .i64 0) := (blk_cell BK137.out 0).trans rfl; have hcz10_1 : w8.cell? ⟨gb137, 1, none⟩ = some (.int .i64 0) := (blk_cell BK137.out 1).trans rfl; have hcz10_2 : w8.cell? ⟨gb137, 2, none⟩ = some (.string (⟨#[]⟩ : ByteArray)) := (blk_cell BK137.out 2).trans rfl; have hfz10_0 := blk_frozen BK137.out 0; have hfz10_1 := blk_frozen BK137.out 1; have hfz10_2 := blk_frozen BK137.out 2))
  refine bodyPost_ret (results_cell_row rfl _ _ gb137 38 #[.int .i64 a0_0, .int .i64 a0_1, .string a0_2] (0, 0) _ rfl (by (with_reducible repeat (first | refine blk_drewN ?_ _ | refine blk_drew ?_ | refine blk_alloc ?_ _)); refine blk_put (cs := #[.int .i64 a0_0, .int .i64 a0_1, .string (⟨#[]⟩ : ByteArray)]) ?_ 2 _ rfl; (with_reducible repeat (first | refine blk_drewN ?_ _ | refine blk_drew ?_ | refine blk_alloc ?_ _)); refine blk_put (cs := #[.int .i64 a0_0, .int .i64 0, .string (⟨#[]⟩ : ByteArray)]) ?_ 1 _ rfl; (with_reducible repeat (first | refine blk_drewN ?_ _ | refine blk_drew ?_ | refine blk_alloc ?_ _)); refine blk_put (cs := #[.int .i64 0, .int .i64 0, .string (⟨#[]⟩ : ByteArray)]) ?_ 0 _ rfl; (with_reducible repeat (first | refine blk_drewN ?_ _ | refine blk_drew ?_ | refine blk_alloc ?_ _)); exact BK137.out) Try.underlying38 rfl (by kernel_rfl)) rfl ?_
  exact ⟨by first | rfl | (simp [errW_none, errW_some] <;> rfl) | (simp [*, errW_none, errW_some] <;> rfl), by repeat (first | (with_reducible first | exact HB.out | apply below_alloc | apply pw_below_drewN | apply below_drew1 | refine below_set ?_ GE136.out | refine below_set ?_ GE137.out) | exact HB.out)⟩
 ·replace c3 := Bool.eq_false_iff.mpr c3
  subst c3
  have H1 : (some (0, 0, (⟨#[]⟩ : ByteArray))) = some (r1, r2, r3) := by rw [if_neg (show ¬ (false = true) by decide)] at H; exact H
  clear H
  have H := H1
  clear H1
  simp only [Option.some.injEq, Prod.mk.injEq] at H
  obtain ⟨rfl, rfl, rfl⟩ := H
  go_enter Try.func39, Try.ntmps39
  go_wp2_with (first | ((with_reducible refine gate_dst (N := 1) rfl ?_); refine box_event ?hg (N := 1) ?hd (cs := #[.int .i64 a0_0, .int .i64 a0_1, .string a0_2]) (t := 38) ?hr ?_; (case hd => rfl); (case hg => rfl); (case hr => first | (go_simp; done) | (go_simp; rfl)); intro gb136 hg w11 hbox hb; have n0_ := Aside0.mk (below_step (by repeat (first | (with_reducible first | exact HB.out | apply below_alloc | apply pw_below_drewN | apply below_drew1) | exact HB.out)) hb); have n1_ := Aside0.mk (hbox); have n2_ := Aside0.mk ((by rw [hg]; exact (below_size (by repeat (first | (with_reducible first | exact HB.out | apply below_alloc | apply pw_below_drewN | apply below_drew1) | exact HB.out))) : w.heap.size ≤ gb136)); have n3_ := Aside0.mk ((by rw [hg]; exact (below_size (by repeat (first | (with_reducible first | exact HB.out | apply below_alloc | apply pw_below_drewN | apply below_drew1) | exact HB.out))) : w.heap.size ≤ gb136)); clear HB; have HB := n0_; have BK136 := n1_; have GW136 := n2_; have GE136 := n3_; clear n0_ n1_ n2_ n3_; clear hb hbox hg) | ((with_reducible refine gate_dst (N := 2) rfl ?_); refine box_event ?hg (N := 2) ?hd (cs := #[.int .i64 0, .int .i64 0, .string (⟨#[]⟩ : ByteArray)]) (t := 38) ?hr ?_; (case hd => rfl); (case hg => rfl); (case hr => first | (go_simp; done) | (go_simp; rfl)); intro gb137 hg w12 hbox hb; have n0_ := Aside0.mk (blk_below (g := gb136) (o := .cells #[.int .i64 a0_0, .int .i64 a0_1, .string a0_2] 38 (0, 0)) (by (with_reducible repeat (first | refine blk_drewN ?_ _ | refine blk_drew ?_ | refine blk_alloc ?_ _)); exact BK136.out) hb); have n1_ := Aside0.mk (below_step (by repeat (first | (with_reducible first | exact HB.out | apply below_alloc | apply pw_below_drewN | apply below_drew1 | refine below_set ?_ GE136.out) | exact HB.out)) hb); have n2_ := Aside0.mk (hbox); have n3_ := Aside0.mk ((by rw [hg]; exact (below_size (by repeat (first | (with_reducible first | exact HB.out | apply below_alloc | apply pw_below_drewN | apply below_drew1 | refine below_set ?_ GE136.out) | exact HB.out))) : w.heap.size ≤ gb137)); have n4_ := Aside0.mk ((by rw [hg]; exact (below_size (by repeat (first | (with_reducible first | exact HB.out | apply below_alloc | apply pw_below_drewN | apply below_drew1 | refine below_set ?_ GE136.out) | exact HB.out))) : w.heap.size ≤ gb137)); have n5_ := Aside0.mk ((by rw [hg]; exact Nat.ne_of_lt (blk_lt (g := gb136) (o := .cells #[.int .i64 a0_0, .int .i64 a0_1, .string a0_2] 38 (0, 0)) (by (with_reducible repeat (first | refine blk_drewN ?_ _ | refine blk_drew ?_ | refine blk_alloc ?_ _)); exact BK136.out)) : gb136 ≠ gb137)); have n6_ := Aside0.mk ((by rw [hg]; exact Nat.ne_of_gt (blk_lt (g := gb136) (o := .cells #[.int .i64 a0_0, .int .i64 a0_1, .string a0_2] 38 (0, 0)) (by (with_reducible repeat (first | refine blk_drewN ?_ _ | refine blk_drew ?_ | refine blk_alloc ?_ _)); exact BK136.out)) : gb137 ≠ gb136)); clear BK136; clear HB; have BK136 := n0_; have HB := n1_; have BK137 := n2_; have GW137 := n3_; have GE137 := n4_; have NB136_137 := n5_; have NB137_136 := n6_; clear n0_ n1_ n2_ n3_ n4_ n5_ n6_; clear hb hbox hg; have hnb13 := NB136_137.out; have hnc13 := NB137_136.out; have hcz14_0 : w12.cell? ⟨gb136, 0, none⟩ = some (.int .i64 a0_0) := (blk_cell BK136.out 0).trans rfl; have hcz14_1 : w12.cell? ⟨gb136, 1, none⟩ = some (.int .i64 a0_1) := (blk_cell BK136.out 1).trans rfl; have hcz14_2 : w12.cell? ⟨gb136, 2, none⟩ = some (.string a0_2) := (blk_cell BK136.out 2).trans rfl; have hfz14_0 := blk_frozen BK136.out 0; have hfz14_1 := blk_frozen BK136.out 1; have hfz14_2 := blk_frozen BK136.out 2) | ((with_reducible refine gate_callee (f := 44) rfl ?_); refine goesL_ (some 4) rfl rfl Try.func44 (by kernel_rfl) rfl #[.agg #[.int .i64 a0_0, .int .i64 a0_1, .string a0_2]] rfl (by (try simp only [List.map_toArray, List.map_cons, List.map_nil]); first | done | rfl | (simp only [List.length_drop, List.length_take]; rfl)) ?_; (with_reducible refine (erasureref01_Valid.calls a0_0 a0_1 a0_2 false _ A2.out).mono ?_); rintro e w15 ⟨rfl, hb⟩; refine ⟨_, rfl, ?_⟩; have n0_ := Aside0.mk (blk_below (g := gb136) (o := .cells #[.int .i64 a0_0, .int .i64 a0_1, .string a0_2] 38 (0, 0)) (by (with_reducible repeat (first | refine blk_drewN ?_ _ | refine blk_drew ?_ | refine blk_alloc ?_ _)); exact BK136.out) hb); have n1_ := Aside0.mk (blk_below (g := gb137) (o := .cells #[.int .i64 0, .int .i64 0, .string (⟨#[]⟩ : ByteArray)] 38 (0, 0)) (by (with_reducible repeat (first | refine blk_drewN ?_ _ | refine blk_drew ?_ | refine blk_alloc ?_ _)); exact BK137.out) hb); have n2_ := Aside0.mk (below_step (by repeat (first | (with_reducible first | exact HB.out | apply below_alloc | apply pw_below_drewN | apply below_drew1 | refine below_set ?_ GE136.out | refine below_set ?_ GE137.out) | exact HB.out)) hb); clear BK136; clear BK137; clear HB; have BK136 := n0_; have BK137 := n1_; have HB := n2_; clear n0_ n1_ n2_; (try clear hb); (try clear hb2); (try clear hk); (try clear hi); have hcz16_0 : w15.cell? ⟨gb137, 0, none⟩ = some (.int .i64 0) := (blk_cell BK137.out 0).trans rfl; have hcz16_1 : w15.cell? ⟨gb137, 1, none⟩ = some (.int .i64 0) := (blk_cell BK137.out 1).trans rfl; have hcz16_2 : w15.cell? ⟨gb137, 2, none⟩ = some (.string (⟨#[]⟩ : ByteArray)) := (blk_cell BK137.out 2).trans rfl; have hfz16_0 := blk_frozen BK137.out 0; have hfz16_1 := blk_frozen BK137.out 1; have hfz16_2 := blk_frozen BK137.out 2))
  refine bodyPost_ret (results_cell_row rfl _ _ gb137 38 #[.int .i64 0, .int .i64 0, .string (⟨#[]⟩ : ByteArray)] (0, 0) _ rfl (by (with_reducible repeat (first | refine blk_drewN ?_ _ | refine blk_drew ?_ | refine blk_alloc ?_ _)); refine blk_put (cs := #[.int .i64 0, .int .i64 0, .string (⟨#[]⟩ : ByteArray)]) ?_ 2 _ rfl; (with_reducible repeat (first | refine blk_drewN ?_ _ | refine blk_drew ?_ | refine blk_alloc ?_ _)); refine blk_put (cs := #[.int .i64 0, .int .i64 0, .string (⟨#[]⟩ : ByteArray)]) ?_ 1 _ rfl; (with_reducible repeat (first | refine blk_drewN ?_ _ | refine blk_drew ?_ | refine blk_alloc ?_ _)); refine blk_put (cs := #[.int .i64 0, .int .i64 0, .string (⟨#[]⟩ : ByteArray)]) ?_ 0 _ rfl; (with_reducible repeat (first | refine blk_drewN ?_ _ | refine blk_drew ?_ | refine blk_alloc ?_ _)); exact BK137.out) Try.underlying38 rfl (by kernel_rfl)) rfl ?_
  exact ⟨by first | rfl | (simp [errW_none, errW_some] <;> rfl) | (simp [*, errW_none, errW_some] <;> rfl), by repeat (first | (with_reducible first | exact HB.out | apply below_alloc | apply pw_below_drewN | apply below_drew1 | refine below_set ?_ GE136.out | refine below_set ?_ GE137.out) | exact HB.out)⟩
end Go.Proofs.Ytjhnpaenhdbhpaa.P
namespace Go.Proofs.Ytjhnpaenhdbhpaa.P
open Go.RowKit Go.Proofs.YtjhnpaenhdbhpaaW.PrintWords Go.Proofs.YtjhnpaenhdbhpaaW.PrintLast Go.Proofs.YtjhnpaenhdbhpaaW.PrintMore
attribute [local go_sem] max2_int min2_int max_two min_two max_three min_three max_four min_four
set_option linter.unusedVariables false
set_option linter.unusedSimpArgs false
def erasureref01_Int.f (a0 : Int) : Option (Int × Int × ByteArray) := (erasureref01_Clean.f 1 a0 (⟨#[]⟩ : ByteArray)).bind fun bt140 => (some (bt140.1, bt140.2.1, bt140.2.2))
set_option maxHeartbeats 8000000 in
set_option maxRecDepth 100000 in
theorem erasureref01_Int.calls (a0 : Int) (r1 : Int) (r2 : Int) (r3 : ByteArray) (w : World) (h : erasureref01_Int.f a0 = some (r1, r2, r3)) :
  Calls Try.prog 20 #[.int .i64 a0] w fun e w' => e = .returned (.agg #[.int .i64 r1, .int .i64 r2, .string r3]) ∧ Below w.heap.size w w' := by
 have hu38 := Try.underlying38
 have HB := Aside0.mk (Below.refl w.heap.size w)
 have H : ((erasureref01_Clean.f 1 a0 (⟨#[]⟩ : ByteArray)).bind fun bt140 => (some (bt140.1, bt140.2.1, bt140.2.2))) = some (r1, r2, r3) := h
 clear h
 replace H := Option.bind_eq_some_iff.mp H
 obtain ⟨⟨t140, t141, t142⟩, A20, H⟩ := H
 replace H : (some (t140, t141, t142)) = some (r1, r2, r3) := H
 have A2 := Aside0.mk A20
 clear A20
 simp only [Option.some.injEq, Prod.mk.injEq] at H
 obtain ⟨rfl, rfl, rfl⟩ := H
 go_enter Try.func20, Try.ntmps20
 go_wp2_with (first | ((with_reducible refine gate_dst (N := 2) rfl ?_); refine box_event ?hg (N := 2) ?hd (cs := #[.int .i64 0, .int .i64 0, .string (⟨#[]⟩ : ByteArray)]) (t := 38) ?hr ?_; (case hd => rfl); (case hg => rfl); (case hr => first | (go_simp; done) | (go_simp; rfl)); intro gb139 hg w3 hbox hb; have n0_ := Aside0.mk (below_step (by repeat (first | (with_reducible first | exact HB.out | apply below_alloc | apply pw_below_drewN | apply below_drew1) | exact HB.out)) hb); have n1_ := Aside0.mk (hbox); have n2_ := Aside0.mk ((by rw [hg]; exact (below_size (by repeat (first | (with_reducible first | exact HB.out | apply below_alloc | apply pw_below_drewN | apply below_drew1) | exact HB.out))) : w.heap.size ≤ gb139)); have n3_ := Aside0.mk ((by rw [hg]; exact (below_size (by repeat (first | (with_reducible first | exact HB.out | apply below_alloc | apply pw_below_drewN | apply below_drew1) | exact HB.out))) : w.heap.size ≤ gb139)); clear HB; have HB := n0_; have BK139 := n1_; have GW139 := n2_; have GE139 := n3_; clear n0_ n1_ n2_ n3_; clear hb hbox hg) | ((with_reducible refine gate_callee (f := 39) rfl ?_); refine goesL_ (some 5) rfl rfl Try.func39 (by kernel_rfl) rfl #[.agg #[.int .i64 1, .int .i64 a0, .string (⟨#[]⟩ : ByteArray)]] rfl (by (try simp only [List.map_toArray, List.map_cons, List.map_nil]); first | done | rfl | (simp only [List.length_drop, List.length_take]; rfl)) ?_; (with_reducible refine (erasureref01_Clean.calls 1 a0 (⟨#[]⟩ : ByteArray) t140 t141 t142 _ A2.out).mono ?_); rintro e w4 ⟨rfl, hb⟩; refine ⟨_, rfl, ?_⟩; have n0_ := Aside0.mk (blk_below (g := gb139) (o := .cells #[.int .i64 0, .int .i64 0, .string (⟨#[]⟩ : ByteArray)] 38 (0, 0)) (by (with_reducible repeat (first | refine blk_drewN ?_ _ | refine blk_drew ?_ | refine blk_alloc ?_ _)); exact BK139.out) hb); have n1_ := Aside0.mk (below_step (by repeat (first | (with_reducible first | exact HB.out | apply below_alloc | apply pw_below_drewN | apply below_drew1 | refine below_set ?_ GE139.out) | exact HB.out)) hb); clear BK139; clear HB; have BK139 := n0_; have HB := n1_; clear n0_ n1_; (try clear hb); (try clear hb2); (try clear hk); (try clear hi); have hcz5_0 : w4.cell? ⟨gb139, 0, none⟩ = some (.int .i64 0) := (blk_cell BK139.out 0).trans rfl; have hcz5_1 : w4.cell? ⟨gb139, 1, none⟩ = some (.int .i64 0) := (blk_cell BK139.out 1).trans rfl; have hcz5_2 : w4.cell? ⟨gb139, 2, none⟩ = some (.string (⟨#[]⟩ : ByteArray)) := (blk_cell BK139.out 2).trans rfl; have hfz5_0 := blk_frozen BK139.out 0; have hfz5_1 := blk_frozen BK139.out 1; have hfz5_2 := blk_frozen BK139.out 2))
 refine bodyPost_ret (results_cell_row rfl _ _ gb139 38 #[.int .i64 t140, .int .i64 t141, .string t142] (0, 0) _ rfl (by (with_reducible repeat (first | refine blk_drewN ?_ _ | refine blk_drew ?_ | refine blk_alloc ?_ _)); refine blk_put (cs := #[.int .i64 t140, .int .i64 t141, .string (⟨#[]⟩ : ByteArray)]) ?_ 2 _ rfl; (with_reducible repeat (first | refine blk_drewN ?_ _ | refine blk_drew ?_ | refine blk_alloc ?_ _)); refine blk_put (cs := #[.int .i64 t140, .int .i64 0, .string (⟨#[]⟩ : ByteArray)]) ?_ 1 _ rfl; (with_reducible repeat (first | refine blk_drewN ?_ _ | refine blk_drew ?_ | refine blk_alloc ?_ _)); refine blk_put (cs := #[.int .i64 0, .int .i64 0, .string (⟨#[]⟩ : ByteArray)]) ?_ 0 _ rfl; (with_reducible repeat (first | refine blk_drewN ?_ _ | refine blk_drew ?_ | refine blk_alloc ?_ _)); exact BK139.out) Try.underlying38 rfl (by kernel_rfl)) rfl ?_
 exact ⟨by first | rfl | (simp [errW_none, errW_some] <;> rfl) | (simp [*, errW_none, errW_some] <;> rfl), by repeat (first | (with_reducible first | exact HB.out | apply below_alloc | apply pw_below_drewN | apply below_drew1 | refine below_set ?_ GE139.out) | exact HB.out)⟩
end Go.Proofs.Ytjhnpaenhdbhpaa.P
