/- Part of the proof of ReleaseValid: printed by programs of this repo out of the translation, and by hand. Each theorem's conditions stand in its statement. -/
import Derived.Test.YtjhnpaenhdbhpaaMReleaseValida
import Derived.Test.YtjhnpaenhdbhpaaMReleaseValidb
import Derived.Test.YtjhnpaenhdbhpaaMReleaseValidc
import Derived.Test.YtjhnpaenhdbhpaaMReleaseValidd
namespace Go.Proofs.Ytjhnpaenhdbhpaa.P
open Go.RowKit Go.Proofs.YtjhnpaenhdbhpaaW.PrintWords Go.Proofs.YtjhnpaenhdbhpaaW.PrintLast Go.Proofs.YtjhnpaenhdbhpaaW.PrintMore
attribute [local go_sem] max2_int min2_int max_two min_two max_three min_three max_four min_four
set_option linter.unusedVariables false
set_option linter.unusedSimpArgs false
def release_Valid.l0 : Nat → List (S43) → Int → ByteArray → ByteArray → Int → Option (Bool)
 | 0, _, _, _, _, _ => none
 | k + 1, x1, x5, x391000, x391001, x391002 => if x5 < (x1.length : Int) then (if 0 ≤ x5 then (if ((rd_T43 x1 x5).f1) ≤ 0 then (some false) else (if x391002 = 0 then (none) else (if (Int.tmod ((rd_T43 x1 x5).f1) x391002) = 0 then (if x5 > 0 then (if 0 ≤ (wrap64 (x5 - 1)) then (if (wrap64 (x5 - 1)) < (x1.length : Int) then ((value_CompareRows.f ((rd_T43 x1 (wrap64 (x5 - 1))).f0) ((rd_T43 x1 x5).f0)).bind fun t395 => (if t395 ≥ 0 then (some false) else (release_Valid.l0 k x1 (wrap64 (x5 + 1)) x391000 x391001 x391002))) else (none)) else (none)) else (release_Valid.l0 k x1 (wrap64 (x5 + 1)) x391000 x391001 x391002)) else (some false)))) else (none)) else (some true)
def release_Valid.f (k : Nat) (a0_0 : ByteArray) (a0_1 : ByteArray) (a0_2 : Int) (l1 : List (S43)) : Option (Bool) := if a0_2 < 1 then (some false) else (release_Valid.l0 k l1 0 a0_0 a0_1 a0_2)
def release_Valid.T6 : Bool × List (List Nat × List Nat) := (true, [([], []), ([], []), ([0, 1], [0, 1]), ([2], [2]), ([3], [3]), ([4], [4]), ([5], [5]), ([6], [6]), ([6], [6]), ([7, 8, 6], [6, 7, 8]), ([9, 6], [6, 9]), ([10, 6], [6, 10]), ([6], [6]), ([12, 6], [6, 12]), ([11, 13, 6], [6, 11, 13]), ([14, 6], [6, 14]), ([6, 15], [6, 15]), ([16, 6], [16]), ([17], [17]), ([18, 17], [17, 18]), ([19, 17, 17], [17, 19]), ([20], [20]), ([20], [20]), ([22, 20], [20, 22]), ([21, 23, 20], [20, 21, 23]), ([24, 20], [20, 24]), ([25, 20], [20, 25]), ([20], [20]), ([20], [20]), ([27, 28, 20], [20, 27, 28]), ([29, 20], [20, 29]), ([30, 20], [20, 30]), ([26, 31, 20, 20], [20, 26, 31]), ([32, 20], [20, 32]), ([20, 33, 17], [17, 20, 33]), ([17, 34], [17, 34])])
def release_Valid.B6 : List Nat := [0, 0, 3, 7, 15, 31, 63, 127, 127, 511, 1023, 2047, 127, 4223, 16383, 32767, 65535, 131071, 262143, 524287, 1048575, 2097151, 2097151, 6291455, 16777215, 33554431, 67108863, 2097151, 2097151, 404750335, 941621247, 2015363071, 4294967295, 8589934591, 17179869183, 34359738367]
theorem release_Valid.tab6 : rtab .any (opsOf Try.f23 6) = release_Valid.T6 := by kernel_rfl
theorem release_Valid.bits6 : waitsOk release_Valid.T6.2 release_Valid.B6 = true := by kernel_rfl
set_option maxHeartbeats 8000000 in
set_option maxRecDepth 100000 in
theorem release_Valid.calls (k : Nat) (a0_0 : ByteArray) (a0_1 : ByteArray) (a0_2 : Int) (A1 : Option Addr) (c1 : Nat) (l1 : List (S43)) (r : Bool) (w : World) (hr1 : Kd.C k43 w A1 l1.length l1) (hc1 : l1.length ≤ c1) (h : release_Valid.f k a0_0 a0_1 a0_2 l1 = some r) :
  Calls Try.prog 23 #[.agg #[.string a0_0, .string a0_1, .int .i64 a0_2], .slice A1 l1.length c1] w fun e w' => e = .returned (.bool r) ∧ Below w.heap.size w w' := by
 have hu23 := Try.underlying23
 have HR1 := Aside0.mk hr1
 have HC1 := Aside0.mk hc1
 clear hr1 hc1
 have HB := Aside0.mk (Below.refl w.heap.size w)
 have H : (if a0_2 < 1 then (some false) else (release_Valid.l0 k l1 0 a0_0 a0_1 a0_2)) = some r := h
 clear h
 by_cases c3 : a0_2 < 1
 ·rw [if_pos c3] at H
  have c3b0 : decide (a0_2 < 1) = true := decide_eq_true c3
  clear c3
  obtain rfl := Option.some.inj H
  go_enter Try.func23, Try.ntmps23
  go_wp2_with (first | ((with_reducible refine gate_dst (N := 2) rfl ?_); refine box_event ?hg (N := 2) ?hd (cs := #[.string a0_0, .string a0_1, .int .i64 a0_2]) (t := 23) ?hr ?_; (case hd => rfl); (case hg => rfl); (case hr => first | (go_simp; done) | (go_simp; rfl)); intro gb390 hg w4 hbox hb; have n0_ := Aside0.mk (below_step (by repeat (first | (with_reducible first | exact HB.out | apply below_alloc | apply pw_below_drewN | apply below_drew1) | exact HB.out)) hb); have n1_ := Aside0.mk (hbox); have n2_ := Aside0.mk ((by rw [hg]; exact (below_size (by repeat (first | (with_reducible first | exact HB.out | apply below_alloc | apply pw_below_drewN | apply below_drew1) | exact HB.out))) : w.heap.size ≤ gb390)); have n3_ := Aside0.mk ((by rw [hg]; exact (below_size (by repeat (first | (with_reducible first | exact HB.out | apply below_alloc | apply pw_below_drewN | apply below_drew1) | exact HB.out))) : w.heap.size ≤ gb390)); clear HB; have HB := n0_; have BK390 := n1_; have GW390 := n2_; have GE390 := n3_; clear n0_ n1_ n2_ n3_; clear hb hbox hg; have hcz5_0 : w4.cell? ⟨gb390, 0, none⟩ = some (.string a0_0) := (blk_cell BK390.out 0).trans rfl; have hcz5_1 : w4.cell? ⟨gb390, 1, none⟩ = some (.string a0_1) := (blk_cell BK390.out 1).trans rfl; have hcz5_2 : w4.cell? ⟨gb390, 2, none⟩ = some (.int .i64 a0_2) := (blk_cell BK390.out 2).trans rfl; have hfz5_0 := blk_frozen BK390.out 0; have hfz5_1 := blk_frozen BK390.out 1; have hfz5_2 := blk_frozen BK390.out 2))
  go_ret
  exact ⟨by first | rfl | (simp [errW_none, errW_some] <;> rfl) | (simp [*, errW_none, errW_some] <;> rfl), by repeat (first | (with_reducible first | exact HB.out | apply below_alloc | apply pw_below_drewN | apply below_drew1 | refine below_set ?_ GE390.out) | exact HB.out)⟩
 ·rw [if_neg c3] at H
  have c3b0 : decide (a0_2 < 1) = false := decide_eq_false c3
  clear c3
  have H' := Aside0.mk H
  clear H
  go_enter Try.func23, Try.ntmps23
  go_wp2_with (first | ((with_reducible refine gate_dst (N := 2) rfl ?_); refine box_event ?hg (N := 2) ?hd (cs := #[.string a0_0, .string a0_1, .int .i64 a0_2]) (t := 23) ?hr ?_; (case hd => rfl); (case hg => rfl); (case hr => first | (go_simp; done) | (go_simp; rfl)); intro gb390 hg w6 hbox hb; have n0_ := Aside0.mk (below_step (by repeat (first | (with_reducible first | exact HB.out | apply below_alloc | apply pw_below_drewN | apply below_drew1) | exact HB.out)) hb); have n1_ := Aside0.mk (hbox); have n2_ := Aside0.mk ((by rw [hg]; exact (below_size (by repeat (first | (with_reducible first | exact HB.out | apply below_alloc | apply pw_below_drewN | apply below_drew1) | exact HB.out))) : w.heap.size ≤ gb390)); have n3_ := Aside0.mk ((by rw [hg]; exact (below_size (by repeat (first | (with_reducible first | exact HB.out | apply below_alloc | apply pw_below_drewN | apply below_drew1) | exact HB.out))) : w.heap.size ≤ gb390)); clear HB; have HB := n0_; have BK390 := n1_; have GW390 := n2_; have GE390 := n3_; clear n0_ n1_ n2_ n3_; clear hb hbox hg; have hcz7_0 : w6.cell? ⟨gb390, 0, none⟩ = some (.string a0_0) := (blk_cell BK390.out 0).trans rfl; have hcz7_1 : w6.cell? ⟨gb390, 1, none⟩ = some (.string a0_1) := (blk_cell BK390.out 1).trans rfl; have hcz7_2 : w6.cell? ⟨gb390, 2, none⟩ = some (.int .i64 a0_2) := (blk_cell BK390.out 2).trans rfl; have hfz7_0 := blk_frozen BK390.out 0; have hfz7_1 := blk_frozen BK390.out 1; have hfz7_2 := blk_frozen BK390.out 2))
  go_loopg [5] k (fun kq v5 w' => ∃ (x5_1 : Int), v5 = .int .i64 x5_1 ∧ Aside0 (release_Valid.l0 kq l1 x5_1 a0_0 a0_1 a0_2 = some r) ∧ Aside0 (kq ≤ k) ∧ Aside0 (w'.heap[gb390]? = some (.cells #[.string a0_0, .string a0_1, .int .i64 a0_2] 23 (0, 0))) ∧ Aside0 (Below w.heap.size w w'))
  case atStart => exact ⟨(0), (by first | rfl | (simp; done) | (simp [*]; done)), H', ⟨Nat.le_refl _⟩, ⟨by (with_reducible repeat (first | refine blk_drewN ?_ _ | refine blk_drew ?_ | refine blk_alloc ?_ _)); exact BK390.out⟩, ⟨by repeat (first | (with_reducible first | exact HB.out | apply below_alloc | apply pw_below_drewN | apply below_drew1 | refine below_set ?_ GE390.out) | exact HB.out)⟩⟩
  case round =>
   clear H'
   try clear c1
   try clear c2
   try clear p2
   try clear c3
   try clear c3b0
   try clear hcz5_0
   try clear hcz5_1
   try clear hcz5_2
   try clear hcz7_0
   try clear hcz7_1
   try clear hcz7_2
   try clear hfz5_0
   try clear hfz5_1
   try clear hfz5_2
   try clear hfz7_0
   try clear hfz7_1
   try clear hfz7_2
   obtain ⟨x5_1, rfl, HA, HK1, BK390, HB⟩ := hrel
   cases gk with
   | zero => exact absurd HA.out (by simp [release_Valid.l0])
   | succ k1 =>
    have H := HA.out
    clear HA
    simp only [release_Valid.l0] at H
    by_cases c8 : x5_1 < (l1.length : Int)
    ·rw [if_pos c8] at H
     have c8b0 : decide (x5_1 < (l1.length : Int)) = true := decide_eq_true c8
     clear c8
     by_cases c9 : 0 ≤ x5_1
     ·rw [if_pos c9] at H
      have c9b0 : decide (0 ≤ x5_1) = true := decide_eq_true c9
      clear c9
      by_cases c10 : ((rd_T43 l1 x5_1).f1) ≤ 0
      ·rw [if_pos c10] at H
       have c10b0 : decide (((rd_T43 l1 x5_1).f1) ≤ 0) = true := decide_eq_true c10
       clear c10
       obtain rfl := Option.some.inj H
       try go_wp2
       have n0_ := Aside0.mk (blk_drew BK390.out)
       have n1_ := Aside0.mk (below_drew1 HB.out)
       clear BK390
       clear HB
       have BK390 := n0_
       have HB := n1_
       clear n0_ n1_
       have p391 : 0 ≤ (x5_1 : Int) := of_decide_eq_true (by first | (with_reducible assumption) | assumption)
       have q391 : x5_1 < (l1.length : Int) := of_decide_eq_true (by first | (with_reducible assumption) | assumption)
       obtain ⟨ad391, A391_0, c391_0, e391, hx391_0, hx391_1, hl391_0, hi391_0⟩ := at_T43 HR1.out x5_1 p391 q391
       have hw391_1 := hx391_1
       have hw391_0 := hx391_0
       cases e391
       replace hx391_0 := (HB.out.cell (World.block_lt_of_cell? w _ hx391_0)).trans hx391_0
       replace hx391_1 := (HB.out.cell (World.block_lt_of_cell? w _ hx391_1)).trans hx391_1
       have HR391_0 := Aside0.mk hi391_0
       have HC391_0 := Aside0.mk hl391_0
       clear hi391_0 hl391_0
       replace p391 := eq_true p391
       replace q391 := eq_true q391
       refine start_ (n := 36) (S := fun w' => w'.cell? (ad391.add ((x5_1).toNat * 2)) = some (.slice A391_0 ((rd_T43 l1 x5_1).f0).length c391_0) ∧ w'.cell? ⟨(ad391.add ((x5_1).toNat * 2)).block, (ad391.add ((x5_1).toNat * 2)).off + 1, none⟩ = some (.int .i64 ((rd_T43 l1 x5_1).f1))) (ds := []) #[false, false, false, false, false, false, false, false, false, false, false, false, false, false, false, false, false, false, false, false, false, false, false, false, false, false, false, false, false, false, false, false, false, false, false, false] (by kernel_rfl) rfl rfl ⟨((HB.out.cell (World.block_lt_of_cell? w _ hw391_0)).trans hw391_0), ((HB.out.cell (World.block_lt_of_cell? w _ hw391_1)).trans hw391_1)⟩ (fun hHeld => ?_); refine with_tabW release_Valid.tab6 release_Valid.bits6 (fun HT_ HW_ => ?_)
       generalize wr.drew = w11 at BK390 HB HR391_0 hx391_0 hx391_1 hHeld ⊢
       refine pu (i := 0) (N := some 15) (bl 36 1) (any_of HT_.out (by kernel_rfl)) ?_
       refine pu (i := 1) (N := some 16) (bl 36 3) (any_of HT_.out (by kernel_rfl)) ?_
       refine pu (i := 2) (N := some 17) (bl 36 7) (any_of HT_.out (by kernel_rfl)) ?_
       refine pu (i := 3) (N := some 18) (bl 36 15) (any_of HT_.out (by kernel_rfl)) ?_
       refine ta (i := 4) (N := some 19) (bl 36 31) (take_ofW HT_.out HW_.out (by kernel_rfl)) hHeld ?_
       refine pu (i := 5) (N := some 20) (bl 36 63) (any_of HT_.out (by kernel_rfl)) ?_
       refine pu (i := 6) (N := some 21) (bl 36 127) (any_of HT_.out (by kernel_rfl)) ?_
       refine po (i := 7) (N := some 22) (bl 36 255) (any_of HT_.out (by kernel_rfl)) ?_
       refine po (i := 8) (N := some 23) (bl 36 511) (any_of HT_.out (by kernel_rfl)) ?_
       refine po (i := 9) (N := some 24) (bl 36 1023) (any_of HT_.out (by kernel_rfl)) ?_
       refine po (i := 10) (N := some 25) (bl 36 2047) (any_of HT_.out (by kernel_rfl)) ?_
       refine po (i := 11) (N := some 26) (bl 36 4095) (any_of HT_.out (by kernel_rfl)) ?_
       refine po (i := 12) (N := some 27) (bl 36 8191) (any_of HT_.out (by kernel_rfl)) ?_
       refine po (i := 13) (N := some 28) (bl 36 16383) (any_of HT_.out (by kernel_rfl)) ?_
       refine po (i := 14) (N := some 29) (bl 36 32767) (any_of HT_.out (by kernel_rfl)) ?_
       refine po (i := 15) (N := some 30) (bl 36 65535) (any_of HT_.out (by kernel_rfl)) ?_
       refine pu (i := 16) (N := some 31) (bl 36 131071) (any_of HT_.out (by kernel_rfl)) ?_
       refine pu (i := 17) (N := some 32) (bl 36 262143) (any_of HT_.out (by kernel_rfl)) ?_
       refine po (i := 18) (N := some 33) (bl 36 524287) (any_of HT_.out (by kernel_rfl)) ?_
       refine po (i := 19) (N := some 34) (bl 36 1048575) (any_of HT_.out (by kernel_rfl)) ?_
       refine po (i := 20) (N := some 35) (bl 36 2097151) (any_of HT_.out (by kernel_rfl)) ?_
       refine po (i := 21) (N := some 36) (bl 36 4194303) (any_of HT_.out (by kernel_rfl)) ?_
       refine po (i := 22) (N := some 37) (bl 36 8388607) (any_of HT_.out (by kernel_rfl)) ?_
       refine po (i := 23) (N := some 38) (bl 36 16777215) (any_of HT_.out (by kernel_rfl)) ?_
       refine po (i := 24) (N := some 39) (bl 36 33554431) (any_of HT_.out (by kernel_rfl)) ?_
       refine po (i := 25) (N := some 40) (bl 36 67108863) (any_of HT_.out (by kernel_rfl)) ?_
       refine po (i := 26) (N := some 41) (bl 36 134217727) (any_of HT_.out (by kernel_rfl)) ?_
       refine po (i := 27) (N := some 42) (bl 36 268435455) (any_of HT_.out (by kernel_rfl)) ?_
       refine po (i := 28) (N := some 43) (bl 36 536870911) (any_of HT_.out (by kernel_rfl)) ?_
       refine po (i := 29) (N := some 44) (bl 36 1073741823) (any_of HT_.out (by kernel_rfl)) ?_
       refine po (i := 30) (N := some 45) (bl 36 2147483647) (any_of HT_.out (by kernel_rfl)) ?_
       refine po (i := 31) (N := some 46) (bl 36 4294967295) (any_of HT_.out (by kernel_rfl)) ?_
       refine po (i := 32) (N := some 47) (bl 36 8589934591) (any_of HT_.out (by kernel_rfl)) ?_
       refine po (i := 33) (N := some 48) (bl 36 17179869183) (any_of HT_.out (by kernel_rfl)) ?_
       refine po (i := 34) (N := some 49) (bl 36 34359738367) (any_of HT_.out (by kernel_rfl)) ?_
       refine pu (i := 35) (N := some 50) (bl 36 68719476735) (any_of HT_.out (by kernel_rfl)) ?_
       refine done_ (done_of HT_.out (by kernel_rfl)) ?_
       try go_wp2
       go_ret
       exact ⟨by first | rfl | (simp [errW_none, errW_some] <;> rfl) | (simp [*, errW_none, errW_some] <;> rfl), by repeat (first | (with_reducible first | exact HB.out | apply below_alloc | apply pw_below_drewN | apply below_drew1 | refine below_set ?_ GE390.out) | exact HB.out)⟩
      ·rw [if_neg c10] at H
       have c10b0 : decide (((rd_T43 l1 x5_1).f1) ≤ 0) = false := decide_eq_false c10
       clear c10
       by_cases c12 : a0_2 = 0
       ·rw [if_pos c12] at H
        exact absurd H (by simp)
       ·rw [if_neg c12] at H
        have c12b0 : (a0_2 == 0) = false := beq_eq_false_iff_ne.mpr c12
        have c12b1 : (a0_2 != 0) = true := bne_iff_ne.mpr c12
        by_cases c13 : (Int.tmod ((rd_T43 l1 x5_1).f1) a0_2) = 0
        ·rw [if_pos c13] at H
         have c13b0 : ((Int.tmod ((rd_T43 l1 x5_1).f1) a0_2) == 0) = true := beq_iff_eq.mpr c13
         have c13b1 : ((Int.tmod ((rd_T43 l1 x5_1).f1) a0_2) != 0) = false := bne_eq_false_iff_eq.mpr c13
         clear c13
         by_cases c14 : x5_1 > 0
         ·rw [if_pos c14] at H
          have c14b0 : decide (0 < x5_1) = true := decide_eq_true c14
          clear c14
          obtain ⟨ji15, hji15⟩ : ∃ j_ : Int, (wrap64 (x5_1 - 1)) = j_ := ⟨_, rfl⟩
          replace H : (if 0 ≤ (ji15) then (if (ji15) < (l1.length : Int) then ((value_CompareRows.f ((rd_T43 l1 (ji15)).f0) ((rd_T43 l1 x5_1).f0)).bind fun t395 => (if t395 ≥ 0 then (some false) else (release_Valid.l0 k1 l1 (wrap64 (x5_1 + 1)) a0_0 a0_1 a0_2))) else (none)) else (none)) = some r := by first | (rw [hji15] at H; exact H) | (simp only [hji15] at H ⊢; exact H)
          have hji15w : (IntKind.i64.wrap (x5_1 - 1)) = ji15 := (i64_w _).trans hji15
          by_cases c16 : 0 ≤ (ji15)
          ·rw [if_pos c16] at H
           have c16b0 : decide (0 ≤ (ji15)) = true := decide_eq_true c16
           clear c16
           by_cases c17 : (ji15) < (l1.length : Int)
           ·rw [if_pos c17] at H
            have c17b0 : decide ((ji15) < (l1.length : Int)) = true := decide_eq_true c17
            clear c17
            replace H := Option.bind_eq_some_iff.mp H
            obtain ⟨t395, A180, H⟩ := H
            replace H : (if t395 ≥ 0 then (some false) else (release_Valid.l0 k1 l1 (wrap64 (x5_1 + 1)) a0_0 a0_1 a0_2)) = some r := H
            have A18 := Aside0.mk A180
            clear A180
            by_cases c19 : t395 ≥ 0
            ·rw [if_pos c19] at H
             have c19b0 : decide (0 ≤ t395) = true := decide_eq_true c19
             clear c19
             obtain rfl := Option.some.inj H
             try go_wp2
             have n0_ := Aside0.mk (blk_drew BK390.out)
             have n1_ := Aside0.mk (below_drew1 HB.out)
             clear BK390
             clear HB
             have BK390 := n0_
             have HB := n1_
             clear n0_ n1_
             have p391 : 0 ≤ (x5_1 : Int) := of_decide_eq_true (by first | (with_reducible assumption) | assumption)
             have q391 : x5_1 < (l1.length : Int) := of_decide_eq_true (by first | (with_reducible assumption) | assumption)
             obtain ⟨ad391, A391_0, c391_0, e391, hx391_0, hx391_1, hl391_0, hi391_0⟩ := at_T43 HR1.out x5_1 p391 q391
             have hw391_1 := hx391_1
             have hw391_0 := hx391_0
             cases e391
             replace hx391_0 := (HB.out.cell (World.block_lt_of_cell? w _ hx391_0)).trans hx391_0
             replace hx391_1 := (HB.out.cell (World.block_lt_of_cell? w _ hx391_1)).trans hx391_1
             have HR391_0 := Aside0.mk hi391_0
             have HC391_0 := Aside0.mk hl391_0
             clear hi391_0 hl391_0
             replace p391 := eq_true p391
             replace q391 := eq_true q391
             have p392 : 0 ≤ (x5_1 : Int) := of_decide_eq_true (by first | (with_reducible assumption) | assumption)
             have q392 : x5_1 < (l1.length : Int) := of_decide_eq_true (by first | (with_reducible assumption) | assumption)
             obtain ⟨ad392, A392_0, c392_0, e392, hx392_0, hx392_1, hl392_0, hi392_0⟩ := at_T43 HR1.out x5_1 p392 q392
             have hw392_1 := hx392_1
             have hw392_0 := hx392_0
             obtain rfl : ad391 = ad392 := (by injection e392)
             replace hx392_0 := (HB.out.cell (World.block_lt_of_cell? w _ hx392_0)).trans hx392_0
             replace hx392_1 := (HB.out.cell (World.block_lt_of_cell? w _ hx392_1)).trans hx392_1
             have HR392_0 := Aside0.mk hi392_0
             have HC392_0 := Aside0.mk hl392_0
             clear hi392_0 hl392_0
             replace p392 := eq_true p392
             replace q392 := eq_true q392
             have ea_ := Option.some.inj (hx391_0.symm.trans hx392_0)
             injection ea_ with ea_ en_ ec_
             subst ea_
             subst ec_
             clear en_
             have p393 : 0 ≤ ((ji15) : Int) := of_decide_eq_true (by first | (with_reducible assumption) | assumption)
             have q393 : (ji15) < (l1.length : Int) := of_decide_eq_true (by first | (with_reducible assumption) | assumption)
             obtain ⟨ad393, A393_0, c393_0, e393, hx393_0, hx393_1, hl393_0, hi393_0⟩ := at_T43 HR1.out (ji15) p393 q393
             have hw393_1 := hx393_1
             have hw393_0 := hx393_0
             obtain rfl : ad391 = ad393 := (by injection e393)
             replace hx393_0 := (HB.out.cell (World.block_lt_of_cell? w _ hx393_0)).trans hx393_0
             replace hx393_1 := (HB.out.cell (World.block_lt_of_cell? w _ hx393_1)).trans hx393_1
             have HR393_0 := Aside0.mk hi393_0
             have HC393_0 := Aside0.mk hl393_0
             clear hi393_0 hl393_0
             replace p393 := eq_true p393
             replace q393 := eq_true q393
             have p394 : 0 ≤ (x5_1 : Int) := of_decide_eq_true (by first | (with_reducible assumption) | assumption)
             have q394 : x5_1 < (l1.length : Int) := of_decide_eq_true (by first | (with_reducible assumption) | assumption)
             obtain ⟨ad394, A394_0, c394_0, e394, hx394_0, hx394_1, hl394_0, hi394_0⟩ := at_T43 HR1.out x5_1 p394 q394
             have hw394_1 := hx394_1
             have hw394_0 := hx394_0
             obtain rfl : ad391 = ad394 := (by injection e394)
             replace hx394_0 := (HB.out.cell (World.block_lt_of_cell? w _ hx394_0)).trans hx394_0
             replace hx394_1 := (HB.out.cell (World.block_lt_of_cell? w _ hx394_1)).trans hx394_1
             have HR394_0 := Aside0.mk hi394_0
             have HC394_0 := Aside0.mk hl394_0
             clear hi394_0 hl394_0
             replace p394 := eq_true p394
             replace q394 := eq_true q394
             have ea_ := Option.some.inj (hx391_0.symm.trans hx394_0)
             injection ea_ with ea_ en_ ec_
             subst ea_
             subst ec_
             clear en_
             refine start_ (n := 36) (S := fun w' => w'.cell? ⟨gb390, 0, none⟩ = some (.string a0_0) ∧ w'.cell? ⟨gb390, 1, none⟩ = some (.string a0_1) ∧ w'.cell? ⟨gb390, 2, none⟩ = some (.int .i64 a0_2) ∧ w'.cell? (ad391.add ((x5_1).toNat * 2)) = some (.slice A391_0 ((rd_T43 l1 x5_1).f0).length c391_0) ∧ w'.cell? ⟨(ad391.add ((x5_1).toNat * 2)).block, (ad391.add ((x5_1).toNat * 2)).off + 1, none⟩ = some (.int .i64 ((rd_T43 l1 x5_1).f1)) ∧ w'.cell? (ad391.add ((x5_1).toNat * 2)) = some (.slice A391_0 ((rd_T43 l1 x5_1).f0).length c391_0) ∧ w'.cell? ⟨(ad391.add ((x5_1).toNat * 2)).block, (ad391.add ((x5_1).toNat * 2)).off + 1, none⟩ = some (.int .i64 ((rd_T43 l1 x5_1).f1)) ∧ w'.cell? (ad391.add (((ji15)).toNat * 2)) = some (.slice A393_0 ((rd_T43 l1 (ji15)).f0).length c393_0) ∧ w'.cell? ⟨(ad391.add (((ji15)).toNat * 2)).block, (ad391.add (((ji15)).toNat * 2)).off + 1, none⟩ = some (.int .i64 ((rd_T43 l1 (ji15)).f1)) ∧ w'.cell? (ad391.add ((x5_1).toNat * 2)) = some (.slice A391_0 ((rd_T43 l1 x5_1).f0).length c391_0) ∧ w'.cell? ⟨(ad391.add ((x5_1).toNat * 2)).block, (ad391.add ((x5_1).toNat * 2)).off + 1, none⟩ = some (.int .i64 ((rd_T43 l1 x5_1).f1))) (ds := []) #[false, false, false, false, false, false, false, false, false, false, false, false, false, false, false, false, false, false, false, false, false, false, false, false, false, false, false, false, false, false, false, false, false, false, false, false] (by kernel_rfl) rfl rfl ⟨(blk_cell BK390.out 0).trans rfl, (blk_cell BK390.out 1).trans rfl, (blk_cell BK390.out 2).trans rfl, ((HB.out.cell (World.block_lt_of_cell? w _ hw391_0)).trans hw391_0), ((HB.out.cell (World.block_lt_of_cell? w _ hw391_1)).trans hw391_1), ((HB.out.cell (World.block_lt_of_cell? w _ hw392_0)).trans hw392_0), ((HB.out.cell (World.block_lt_of_cell? w _ hw392_1)).trans hw392_1), ((HB.out.cell (World.block_lt_of_cell? w _ hw393_0)).trans hw393_0), ((HB.out.cell (World.block_lt_of_cell? w _ hw393_1)).trans hw393_1), ((HB.out.cell (World.block_lt_of_cell? w _ hw394_0)).trans hw394_0), ((HB.out.cell (World.block_lt_of_cell? w _ hw394_1)).trans hw394_1)⟩ (fun hHeld => ?_); refine with_tabW release_Valid.tab6 release_Valid.bits6 (fun HT_ HW_ => ?_)
             generalize wr.drew = w20 at BK390 HB HR391_0 HR392_0 HR393_0 HR394_0 hx391_0 hx391_1 hx392_0 hx392_1 hx393_0 hx393_1 hx394_0 hx394_1 hHeld ⊢
             refine pu (i := 0) (N := some 15) (bl 36 1) (any_of HT_.out (by kernel_rfl)) ?_
             refine pu (i := 1) (N := some 16) (bl 36 3) (any_of HT_.out (by kernel_rfl)) ?_
             refine pu (i := 2) (N := some 17) (bl 36 7) (any_of HT_.out (by kernel_rfl)) ?_
             refine pu (i := 3) (N := some 18) (bl 36 15) (any_of HT_.out (by kernel_rfl)) ?_
             refine ta (i := 4) (N := some 19) (bl 36 31) (take_ofW HT_.out HW_.out (by kernel_rfl)) hHeld ?_
             refine pu (i := 5) (N := some 20) (bl 36 63) (any_of HT_.out (by kernel_rfl)) ?_
             refine pu (i := 6) (N := some 21) (bl 36 127) (any_of HT_.out (by kernel_rfl)) ?_
             refine pu (i := 7) (N := some 22) (bl 36 255) (any_of HT_.out (by kernel_rfl)) ?_
             refine pu (i := 8) (N := some 23) (bl 36 511) (any_of HT_.out (by kernel_rfl)) ?_
             refine pu (i := 9) (N := some 24) (bl 36 1023) (any_of HT_.out (by kernel_rfl)) ?_
             refine pu (i := 10) (N := some 25) (bl 36 2047) (any_of HT_.out (by kernel_rfl)) ?_
             refine pu (i := 12) (N := some 27) (bl 36 6143) (any_of HT_.out (by kernel_rfl)) ?_
             refine ta (i := 11) (N := some 26) (bl 36 8191) (take_ofW HT_.out HW_.out (by kernel_rfl)) hHeld ?_
             refine ta (i := 13) (N := some 28) (bl 36 16383) (take_ofW HT_.out HW_.out (by kernel_rfl)) hHeld ?_
             refine pu (i := 14) (N := some 29) (bl 36 32767) (any_of HT_.out (by kernel_rfl)) ?_
             refine pu (i := 15) (N := some 30) (bl 36 65535) (any_of HT_.out (by kernel_rfl)) ?_
             refine pu (i := 16) (N := some 31) (bl 36 131071) (any_of HT_.out (by kernel_rfl)) ?_
             refine pu (i := 17) (N := some 32) (bl 36 262143) (any_of HT_.out (by kernel_rfl)) ?_
             refine pu (i := 18) (N := some 33) (bl 36 524287) (any_of HT_.out (by kernel_rfl)) ?_
             refine pu (i := 19) (N := some 34) (bl 36 1048575) (any_of HT_.out (by kernel_rfl)) ?_
             refine pu (i := 20) (N := some 35) (bl 36 2097151) (any_of HT_.out (by kernel_rfl)) ?_
             refine pu (i := 21) (N := some 36) (bl 36 4194303) (any_of HT_.out (by kernel_rfl)) ?_
             refine pu (i := 22) (N := some 37) (bl 36 8388607) (any_of HT_.out (by kernel_rfl)) ?_
             refine pu (i := 23) (N := some 38) (bl 36 16777215) (any_of HT_.out (by kernel_rfl)) ?_
             refine pu (i := 24) (N := some 39) (bl 36 33554431) (any_of HT_.out (by kernel_rfl)) ?_
             refine pu (i := 25) (N := some 40) (bl 36 67108863) (any_of HT_.out (by kernel_rfl)) ?_
             refine pu (i := 27) (N := some 42) (bl 36 201326591) (any_of HT_.out (by kernel_rfl)) ?_
             refine pu (i := 28) (N := some 43) (bl 36 469762047) (any_of HT_.out (by kernel_rfl)) ?_
             refine pu (i := 29) (N := some 44) (bl 36 1006632959) (any_of HT_.out (by kernel_rfl)) ?_
             refine pu (i := 30) (N := some 45) (bl 36 2080374783) (any_of HT_.out (by kernel_rfl)) ?_
             refine ta (i := 26) (N := some 41) (bl 36 2147483647) (take_ofW HT_.out HW_.out (by kernel_rfl)) hHeld ?_
             refine ta (i := 31) (N := some 46) (bl 36 4294967295) (take_ofW HT_.out HW_.out (by kernel_rfl)) hHeld ?_
             refine one_ (i := 32) (N := some 47) (bl 36 8589934591) rfl rfl (one_of HT_.out (by kernel_rfl)) (by decide) (fun K hK => ?_)
             refine goes_ Try.func41 (by kernel_rfl) rfl #[.slice A393_0 ((rd_T43 l1 (ji15)).f0).length c393_0, .slice A391_0 ((rd_T43 l1 x5_1).f0).length c391_0] (by rfl) rfl rfl (by (try simp only [List.map_toArray, List.map_cons, List.map_nil]); first | done | (simp only [hji15]; rfl) | rfl | (simp only [List.length_drop, List.length_take]; rfl)) ?_
             with_reducible refine (value_CompareRows.calls _ _ ((rd_T43 l1 (ji15)).f0) _ _ ((rd_T43 l1 x5_1).f0) t395 _ ?side1 ?side2 ?side3 ?side4 A18.out).mono ?_
             (case side1 => repeat (first | exact (Kd.C_below HR393_0.out HB.out) | (with_reducible refine Kd.C_alloc ?_ _) | (with_reducible refine Kd.C_drewN ?_ _) | (with_reducible refine Kd.C_drew ?_)))
             (case side2 => exact HC393_0.out)
             (case side3 => repeat (first | exact (Kd.C_below HR394_0.out HB.out) | (with_reducible refine Kd.C_alloc ?_ _) | (with_reducible refine Kd.C_drewN ?_ _) | (with_reducible refine Kd.C_drew ?_)))
             (case side4 => exact HC394_0.out)
             rintro e w21 ⟨rfl, hb⟩
             refine ⟨_, rfl, ?_⟩
             have n0_ := Aside0.mk (blk_below (g := gb390) (o := .cells #[.string a0_0, .string a0_1, .int .i64 a0_2] 23 (0, 0)) (by (with_reducible repeat (first | refine blk_drewN ?_ _ | refine blk_drew ?_ | refine blk_alloc ?_ _)); exact BK390.out) hb)
             have n1_ := Aside0.mk (below_step (by repeat (first | (with_reducible first | exact HB.out | apply below_alloc | apply pw_below_drewN | apply below_drew1 | refine below_set ?_ GE390.out) | exact HB.out)) hb)
             clear BK390
             clear HB
             have BK390 := n0_
             have HB := n1_
             clear n0_ n1_
             (try clear hb)
             (try clear hb2)
             (try clear hk)
             (try clear hi)
             refine hK.out _ _ ⟨(blk_cell BK390.out 0).trans rfl, (blk_cell BK390.out 1).trans rfl, (blk_cell BK390.out 2).trans rfl, ((HB.out.cell (World.block_lt_of_cell? w _ hw391_0)).trans hw391_0), ((HB.out.cell (World.block_lt_of_cell? w _ hw391_1)).trans hw391_1), ((HB.out.cell (World.block_lt_of_cell? w _ hw392_0)).trans hw392_0), ((HB.out.cell (World.block_lt_of_cell? w _ hw392_1)).trans hw392_1), ((HB.out.cell (World.block_lt_of_cell? w _ hw393_0)).trans hw393_0), ((HB.out.cell (World.block_lt_of_cell? w _ hw393_1)).trans hw393_1), ((HB.out.cell (World.block_lt_of_cell? w _ hw394_0)).trans hw394_0), ((HB.out.cell (World.block_lt_of_cell? w _ hw394_1)).trans hw394_1)⟩ (fun hHeld => ?_)
             clear hK K
             refine norm_ (a' := ?_) ?_ ?_
             rotate_left
             ·show Act.put _ (some 47) _ = _
              simp only [Act.put, List.setIfInBounds_toArray, List.set_cons_zero, List.set_cons_succ, i64_w, i32_w]
              rfl
             refine pu (i := 33) (N := some 48) (bl 36 17179869183) (any_of HT_.out (by kernel_rfl)) ?_
             refine pu (i := 34) (N := some 49) (bl 36 34359738367) (any_of HT_.out (by kernel_rfl)) ?_
             refine pu (i := 35) (N := some 50) (bl 36 68719476735) (any_of HT_.out (by kernel_rfl)) ?_
             refine done_ (done_of HT_.out (by kernel_rfl)) ?_
             try go_wp2
             go_ret
             exact ⟨by first | rfl | (simp [errW_none, errW_some] <;> rfl) | (simp only [← hji15]; first | rfl | (simp [errW_none, errW_some] <;> rfl)) | (simp [*, errW_none, errW_some] <;> rfl), by repeat (first | (with_reducible first | exact HB.out | apply below_alloc | apply pw_below_drewN | apply below_drew1 | refine below_set ?_ GE390.out) | exact HB.out)⟩
            ·rw [if_neg c19] at H
             have c19b0 : decide (0 ≤ t395) = false := decide_eq_false c19
             clear c19
             have H' := Aside0.mk H
             clear H
             try go_wp2
             have n0_ := Aside0.mk (blk_drew BK390.out)
             have n1_ := Aside0.mk (below_drew1 HB.out)
             clear BK390
             clear HB
             have BK390 := n0_
             have HB := n1_
             clear n0_ n1_
             have p391 : 0 ≤ (x5_1 : Int) := of_decide_eq_true (by first | (with_reducible assumption) | assumption)
             have q391 : x5_1 < (l1.length : Int) := of_decide_eq_true (by first | (with_reducible assumption) | assumption)
             obtain ⟨ad391, A391_0, c391_0, e391, hx391_0, hx391_1, hl391_0, hi391_0⟩ := at_T43 HR1.out x5_1 p391 q391
             have hw391_1 := hx391_1
             have hw391_0 := hx391_0
             cases e391
             replace hx391_0 := (HB.out.cell (World.block_lt_of_cell? w _ hx391_0)).trans hx391_0
             replace hx391_1 := (HB.out.cell (World.block_lt_of_cell? w _ hx391_1)).trans hx391_1
             have HR391_0 := Aside0.mk hi391_0
             have HC391_0 := Aside0.mk hl391_0
             clear hi391_0 hl391_0
             replace p391 := eq_true p391
             replace q391 := eq_true q391
             have p392 : 0 ≤ (x5_1 : Int) := of_decide_eq_true (by first | (with_reducible assumption) | assumption)
             have q392 : x5_1 < (l1.length : Int) := of_decide_eq_true (by first | (with_reducible assumption) | assumption)
             obtain ⟨ad392, A392_0, c392_0, e392, hx392_0, hx392_1, hl392_0, hi392_0⟩ := at_T43 HR1.out x5_1 p392 q392
             have hw392_1 := hx392_1
             have hw392_0 := hx392_0
             obtain rfl : ad391 = ad392 := (by injection e392)
             replace hx392_0 := (HB.out.cell (World.block_lt_of_cell? w _ hx392_0)).trans hx392_0
             replace hx392_1 := (HB.out.cell (World.block_lt_of_cell? w _ hx392_1)).trans hx392_1
             have HR392_0 := Aside0.mk hi392_0
             have HC392_0 := Aside0.mk hl392_0
             clear hi392_0 hl392_0
             replace p392 := eq_true p392
             replace q392 := eq_true q392
             have ea_ := Option.some.inj (hx391_0.symm.trans hx392_0)
             injection ea_ with ea_ en_ ec_
             subst ea_
             subst ec_
             clear en_
             have p393 : 0 ≤ ((ji15) : Int) := of_decide_eq_true (by first | (with_reducible assumption) | assumption)
             have q393 : (ji15) < (l1.length : Int) := of_decide_eq_true (by first | (with_reducible assumption) | assumption)
             obtain ⟨ad393, A393_0, c393_0, e393, hx393_0, hx393_1, hl393_0, hi393_0⟩ := at_T43 HR1.out (ji15) p393 q393
             have hw393_1 := hx393_1
             have hw393_0 := hx393_0
             obtain rfl : ad391 = ad393 := (by injection e393)
             replace hx393_0 := (HB.out.cell (World.block_lt_of_cell? w _ hx393_0)).trans hx393_0
             replace hx393_1 := (HB.out.cell (World.block_lt_of_cell? w _ hx393_1)).trans hx393_1
             have HR393_0 := Aside0.mk hi393_0
             have HC393_0 := Aside0.mk hl393_0
             clear hi393_0 hl393_0
             replace p393 := eq_true p393
             replace q393 := eq_true q393
             have p394 : 0 ≤ (x5_1 : Int) := of_decide_eq_true (by first | (with_reducible assumption) | assumption)
             have q394 : x5_1 < (l1.length : Int) := of_decide_eq_true (by first | (with_reducible assumption) | assumption)
             obtain ⟨ad394, A394_0, c394_0, e394, hx394_0, hx394_1, hl394_0, hi394_0⟩ := at_T43 HR1.out x5_1 p394 q394
             have hw394_1 := hx394_1
             have hw394_0 := hx394_0
             obtain rfl : ad391 = ad394 := (by injection e394)
             replace hx394_0 := (HB.out.cell (World.block_lt_of_cell? w _ hx394_0)).trans hx394_0
             replace hx394_1 := (HB.out.cell (World.block_lt_of_cell? w _ hx394_1)).trans hx394_1
             have HR394_0 := Aside0.mk hi394_0
             have HC394_0 := Aside0.mk hl394_0
             clear hi394_0 hl394_0
             replace p394 := eq_true p394
             replace q394 := eq_true q394
             have ea_ := Option.some.inj (hx391_0.symm.trans hx394_0)
             injection ea_ with ea_ en_ ec_
             subst ea_
             subst ec_
             clear en_
             refine start_ (n := 36) (S := fun w' => w'.cell? ⟨gb390, 0, none⟩ = some (.string a0_0) ∧ w'.cell? ⟨gb390, 1, none⟩ = some (.string a0_1) ∧ w'.cell? ⟨gb390, 2, none⟩ = some (.int .i64 a0_2) ∧ w'.cell? (ad391.add ((x5_1).toNat * 2)) = some (.slice A391_0 ((rd_T43 l1 x5_1).f0).length c391_0) ∧ w'.cell? ⟨(ad391.add ((x5_1).toNat * 2)).block, (ad391.add ((x5_1).toNat * 2)).off + 1, none⟩ = some (.int .i64 ((rd_T43 l1 x5_1).f1)) ∧ w'.cell? (ad391.add ((x5_1).toNat * 2)) = some (.slice A391_0 ((rd_T43 l1 x5_1).f0).length c391_0) ∧ w'.cell? ⟨(ad391.add ((x5_1).toNat * 2)).block, (ad391.add ((x5_1).toNat * 2)).off + 1, none⟩ = some (.int .i64 ((rd_T43 l1 x5_1).f1)) ∧ w'.cell? (ad391.add (((ji15)).toNat * 2)) = some (.slice A393_0 ((rd_T43 l1 (ji15)).f0).length c393_0) ∧ w'.cell? ⟨(ad391.add (((ji15)).toNat * 2)).block, (ad391.add (((ji15)).toNat * 2)).off + 1, none⟩ = some (.int .i64 ((rd_T43 l1 (ji15)).f1)) ∧ w'.cell? (ad391.add ((x5_1).toNat * 2)) = some (.slice A391_0 ((rd_T43 l1 x5_1).f0).length c391_0) ∧ w'.cell? ⟨(ad391.add ((x5_1).toNat * 2)).block, (ad391.add ((x5_1).toNat * 2)).off + 1, none⟩ = some (.int .i64 ((rd_T43 l1 x5_1).f1))) (ds := []) #[false, false, false, false, false, false, false, false, false, false, false, false, false, false, false, false, false, false, false, false, false, false, false, false, false, false, false, false, false, false, false, false, false, false, false, false] (by kernel_rfl) rfl rfl ⟨(blk_cell BK390.out 0).trans rfl, (blk_cell BK390.out 1).trans rfl, (blk_cell BK390.out 2).trans rfl, ((HB.out.cell (World.block_lt_of_cell? w _ hw391_0)).trans hw391_0), ((HB.out.cell (World.block_lt_of_cell? w _ hw391_1)).trans hw391_1), ((HB.out.cell (World.block_lt_of_cell? w _ hw392_0)).trans hw392_0), ((HB.out.cell (World.block_lt_of_cell? w _ hw392_1)).trans hw392_1), ((HB.out.cell (World.block_lt_of_cell? w _ hw393_0)).trans hw393_0), ((HB.out.cell (World.block_lt_of_cell? w _ hw393_1)).trans hw393_1), ((HB.out.cell (World.block_lt_of_cell? w _ hw394_0)).trans hw394_0), ((HB.out.cell (World.block_lt_of_cell? w _ hw394_1)).trans hw394_1)⟩ (fun hHeld => ?_); refine with_tabW release_Valid.tab6 release_Valid.bits6 (fun HT_ HW_ => ?_)
             generalize wr.drew = w22 at BK390 HB HR391_0 HR392_0 HR393_0 HR394_0 hx391_0 hx391_1 hx392_0 hx392_1 hx393_0 hx393_1 hx394_0 hx394_1 hHeld ⊢
             refine pu (i := 0) (N := some 15) (bl 36 1) (any_of HT_.out (by kernel_rfl)) ?_
             refine pu (i := 1) (N := some 16) (bl 36 3) (any_of HT_.out (by kernel_rfl)) ?_
             refine pu (i := 2) (N := some 17) (bl 36 7) (any_of HT_.out (by kernel_rfl)) ?_
             refine pu (i := 3) (N := some 18) (bl 36 15) (any_of HT_.out (by kernel_rfl)) ?_
             refine ta (i := 4) (N := some 19) (bl 36 31) (take_ofW HT_.out HW_.out (by kernel_rfl)) hHeld ?_
             refine pu (i := 5) (N := some 20) (bl 36 63) (any_of HT_.out (by kernel_rfl)) ?_
             refine pu (i := 6) (N := some 21) (bl 36 127) (any_of HT_.out (by kernel_rfl)) ?_
             refine pu (i := 7) (N := some 22) (bl 36 255) (any_of HT_.out (by kernel_rfl)) ?_
             refine pu (i := 8) (N := some 23) (bl 36 511) (any_of HT_.out (by kernel_rfl)) ?_
             refine pu (i := 9) (N := some 24) (bl 36 1023) (any_of HT_.out (by kernel_rfl)) ?_
             refine pu (i := 10) (N := some 25) (bl 36 2047) (any_of HT_.out (by kernel_rfl)) ?_
             refine pu (i := 12) (N := some 27) (bl 36 6143) (any_of HT_.out (by kernel_rfl)) ?_
             refine ta (i := 11) (N := some 26) (bl 36 8191) (take_ofW HT_.out HW_.out (by kernel_rfl)) hHeld ?_
             refine ta (i := 13) (N := some 28) (bl 36 16383) (take_ofW HT_.out HW_.out (by kernel_rfl)) hHeld ?_
             refine pu (i := 14) (N := some 29) (bl 36 32767) (any_of HT_.out (by kernel_rfl)) ?_
             refine pu (i := 15) (N := some 30) (bl 36 65535) (any_of HT_.out (by kernel_rfl)) ?_
             refine pu (i := 16) (N := some 31) (bl 36 131071) (any_of HT_.out (by kernel_rfl)) ?_
             refine pu (i := 17) (N := some 32) (bl 36 262143) (any_of HT_.out (by kernel_rfl)) ?_
             refine pu (i := 18) (N := some 33) (bl 36 524287) (any_of HT_.out (by kernel_rfl)) ?_
             refine pu (i := 19) (N := some 34) (bl 36 1048575) (any_of HT_.out (by kernel_rfl)) ?_
             refine pu (i := 20) (N := some 35) (bl 36 2097151) (any_of HT_.out (by kernel_rfl)) ?_
             refine pu (i := 21) (N := some 36) (bl 36 4194303) (any_of HT_.out (by kernel_rfl)) ?_
             refine pu (i := 22) (N := some 37) (bl 36 8388607) (any_of HT_.out (by kernel_rfl)) ?_
             refine pu (i := 23) (N := some 38) (bl 36 16777215) (any_of HT_.out (by kernel_rfl)) ?_
             refine pu (i := 24) (N := some 39) (bl 36 33554431) (any_of HT_.out (by kernel_rfl)) ?_
             refine pu (i := 25) (N := some 40) (bl 36 67108863) (any_of HT_.out (by kernel_rfl)) ?_
             refine pu (i := 27) (N := some 42) (bl 36 201326591) (any_of HT_.out (by kernel_rfl)) ?_
             refine pu (i := 28) (N := some 43) (bl 36 469762047) (any_of HT_.out (by kernel_rfl)) ?_
             refine pu (i := 29) (N := some 44) (bl 36 1006632959) (any_of HT_.out (by kernel_rfl)) ?_
             refine pu (i := 30) (N := some 45) (bl 36 2080374783) (any_of HT_.out (by kernel_rfl)) ?_
             refine ta (i := 26) (N := some 41) (bl 36 2147483647) (take_ofW HT_.out HW_.out (by kernel_rfl)) hHeld ?_
             refine ta (i := 31) (N := some 46) (bl 36 4294967295) (take_ofW HT_.out HW_.out (by kernel_rfl)) hHeld ?_
             refine one_ (i := 32) (N := some 47) (bl 36 8589934591) rfl rfl (one_of HT_.out (by kernel_rfl)) (by decide) (fun K hK => ?_)
             refine goes_ Try.func41 (by kernel_rfl) rfl #[.slice A393_0 ((rd_T43 l1 (ji15)).f0).length c393_0, .slice A391_0 ((rd_T43 l1 x5_1).f0).length c391_0] (by rfl) rfl rfl (by (try simp only [List.map_toArray, List.map_cons, List.map_nil]); first | done | (simp only [hji15]; rfl) | rfl | (simp only [List.length_drop, List.length_take]; rfl)) ?_
             with_reducible refine (value_CompareRows.calls _ _ ((rd_T43 l1 (ji15)).f0) _ _ ((rd_T43 l1 x5_1).f0) t395 _ ?side1 ?side2 ?side3 ?side4 A18.out).mono ?_
             (case side1 => repeat (first | exact (Kd.C_below HR393_0.out HB.out) | (with_reducible refine Kd.C_alloc ?_ _) | (with_reducible refine Kd.C_drewN ?_ _) | (with_reducible refine Kd.C_drew ?_)))
             (case side2 => exact HC393_0.out)
             (case side3 => repeat (first | exact (Kd.C_below HR394_0.out HB.out) | (with_reducible refine Kd.C_alloc ?_ _) | (with_reducible refine Kd.C_drewN ?_ _) | (with_reducible refine Kd.C_drew ?_)))
             (case side4 => exact HC394_0.out)
             rintro e w23 ⟨rfl, hb⟩
             refine ⟨_, rfl, ?_⟩
             have n0_ := Aside0.mk (blk_below (g := gb390) (o := .cells #[.string a0_0, .string a0_1, .int .i64 a0_2] 23 (0, 0)) (by (with_reducible repeat (first | refine blk_drewN ?_ _ | refine blk_drew ?_ | refine blk_alloc ?_ _)); exact BK390.out) hb)
             have n1_ := Aside0.mk (below_step (by repeat (first | (with_reducible first | exact HB.out | apply below_alloc | apply pw_below_drewN | apply below_drew1 | refine below_set ?_ GE390.out) | exact HB.out)) hb)
             clear BK390
             clear HB
             have BK390 := n0_
             have HB := n1_
             clear n0_ n1_
             (try clear hb)
             (try clear hb2)
             (try clear hk)
             (try clear hi)
             refine hK.out _ _ ⟨(blk_cell BK390.out 0).trans rfl, (blk_cell BK390.out 1).trans rfl, (blk_cell BK390.out 2).trans rfl, ((HB.out.cell (World.block_lt_of_cell? w _ hw391_0)).trans hw391_0), ((HB.out.cell (World.block_lt_of_cell? w _ hw391_1)).trans hw391_1), ((HB.out.cell (World.block_lt_of_cell? w _ hw392_0)).trans hw392_0), ((HB.out.cell (World.block_lt_of_cell? w _ hw392_1)).trans hw392_1), ((HB.out.cell (World.block_lt_of_cell? w _ hw393_0)).trans hw393_0), ((HB.out.cell (World.block_lt_of_cell? w _ hw393_1)).trans hw393_1), ((HB.out.cell (World.block_lt_of_cell? w _ hw394_0)).trans hw394_0), ((HB.out.cell (World.block_lt_of_cell? w _ hw394_1)).trans hw394_1)⟩ (fun hHeld => ?_)
             clear hK K
             refine norm_ (a' := ?_) ?_ ?_
             rotate_left
             ·show Act.put _ (some 47) _ = _
              simp only [Act.put, List.setIfInBounds_toArray, List.set_cons_zero, List.set_cons_succ, i64_w, i32_w]
              rfl
             refine pu (i := 33) (N := some 48) (bl 36 17179869183) (any_of HT_.out (by kernel_rfl)) ?_
             refine pu (i := 34) (N := some 49) (bl 36 34359738367) (any_of HT_.out (by kernel_rfl)) ?_
             refine pu (i := 35) (N := some 50) (bl 36 68719476735) (any_of HT_.out (by kernel_rfl)) ?_
             refine done_ (done_of HT_.out (by kernel_rfl)) ?_
             try go_wp2
             go_roundg k1
             case measure => have := HK1.out; omega
             case rel => exact ⟨(wrap64 (x5_1 + 1)), (by first | rfl | (simp; done) | (simp [*]; done)), H', ⟨by have := HK1.out; omega⟩, ⟨by (with_reducible repeat (first | refine blk_drewN ?_ _ | refine blk_drew ?_ | refine blk_alloc ?_ _)); exact BK390.out⟩, ⟨by repeat (first | (with_reducible first | exact HB.out | apply below_alloc | apply pw_below_drewN | apply below_drew1 | refine below_set ?_ GE390.out) | exact HB.out)⟩⟩
           ·rw [if_neg c17] at H
            exact absurd H (by simp)
          ·rw [if_neg c16] at H
           exact absurd H (by simp)
         ·rw [if_neg c14] at H
          have c14b0 : decide (0 < x5_1) = false := decide_eq_false c14
          clear c14
          have H' := Aside0.mk H
          clear H
          try go_wp2
          have n0_ := Aside0.mk (blk_drew BK390.out)
          have n1_ := Aside0.mk (below_drew1 HB.out)
          clear BK390
          clear HB
          have BK390 := n0_
          have HB := n1_
          clear n0_ n1_
          have p391 : 0 ≤ (x5_1 : Int) := of_decide_eq_true (by first | (with_reducible assumption) | assumption)
          have q391 : x5_1 < (l1.length : Int) := of_decide_eq_true (by first | (with_reducible assumption) | assumption)
          obtain ⟨ad391, A391_0, c391_0, e391, hx391_0, hx391_1, hl391_0, hi391_0⟩ := at_T43 HR1.out x5_1 p391 q391
          have hw391_1 := hx391_1
          have hw391_0 := hx391_0
          cases e391
          replace hx391_0 := (HB.out.cell (World.block_lt_of_cell? w _ hx391_0)).trans hx391_0
          replace hx391_1 := (HB.out.cell (World.block_lt_of_cell? w _ hx391_1)).trans hx391_1
          have HR391_0 := Aside0.mk hi391_0
          have HC391_0 := Aside0.mk hl391_0
          clear hi391_0 hl391_0
          replace p391 := eq_true p391
          replace q391 := eq_true q391
          have p392 : 0 ≤ (x5_1 : Int) := of_decide_eq_true (by first | (with_reducible assumption) | assumption)
          have q392 : x5_1 < (l1.length : Int) := of_decide_eq_true (by first | (with_reducible assumption) | assumption)
          obtain ⟨ad392, A392_0, c392_0, e392, hx392_0, hx392_1, hl392_0, hi392_0⟩ := at_T43 HR1.out x5_1 p392 q392
          have hw392_1 := hx392_1
          have hw392_0 := hx392_0
          obtain rfl : ad391 = ad392 := (by injection e392)
          replace hx392_0 := (HB.out.cell (World.block_lt_of_cell? w _ hx392_0)).trans hx392_0
          replace hx392_1 := (HB.out.cell (World.block_lt_of_cell? w _ hx392_1)).trans hx392_1
          have HR392_0 := Aside0.mk hi392_0
          have HC392_0 := Aside0.mk hl392_0
          clear hi392_0 hl392_0
          replace p392 := eq_true p392
          replace q392 := eq_true q392
          have ea_ := Option.some.inj (hx391_0.symm.trans hx392_0)
          injection ea_ with ea_ en_ ec_
          subst ea_
          subst ec_
          clear en_
          refine start_ (n := 36) (S := fun w' => w'.cell? ⟨gb390, 0, none⟩ = some (.string a0_0) ∧ w'.cell? ⟨gb390, 1, none⟩ = some (.string a0_1) ∧ w'.cell? ⟨gb390, 2, none⟩ = some (.int .i64 a0_2) ∧ w'.cell? (ad391.add ((x5_1).toNat * 2)) = some (.slice A391_0 ((rd_T43 l1 x5_1).f0).length c391_0) ∧ w'.cell? ⟨(ad391.add ((x5_1).toNat * 2)).block, (ad391.add ((x5_1).toNat * 2)).off + 1, none⟩ = some (.int .i64 ((rd_T43 l1 x5_1).f1)) ∧ w'.cell? (ad391.add ((x5_1).toNat * 2)) = some (.slice A391_0 ((rd_T43 l1 x5_1).f0).length c391_0) ∧ w'.cell? ⟨(ad391.add ((x5_1).toNat * 2)).block, (ad391.add ((x5_1).toNat * 2)).off + 1, none⟩ = some (.int .i64 ((rd_T43 l1 x5_1).f1))) (ds := []) #[false, false, false, false, false, false, false, false, false, false, false, false, false, false, false, false, false, false, false, false, false, false, false, false, false, false, false, false, false, false, false, false, false, false, false, false] (by kernel_rfl) rfl rfl ⟨(blk_cell BK390.out 0).trans rfl, (blk_cell BK390.out 1).trans rfl, (blk_cell BK390.out 2).trans rfl, ((HB.out.cell (World.block_lt_of_cell? w _ hw391_0)).trans hw391_0), ((HB.out.cell (World.block_lt_of_cell? w _ hw391_1)).trans hw391_1), ((HB.out.cell (World.block_lt_of_cell? w _ hw392_0)).trans hw392_0), ((HB.out.cell (World.block_lt_of_cell? w _ hw392_1)).trans hw392_1)⟩ (fun hHeld => ?_); refine with_tabW release_Valid.tab6 release_Valid.bits6 (fun HT_ HW_ => ?_)
          generalize wr.drew = w24 at BK390 HB HR391_0 HR392_0 hx391_0 hx391_1 hx392_0 hx392_1 hHeld ⊢
          refine pu (i := 0) (N := some 15) (bl 36 1) (any_of HT_.out (by kernel_rfl)) ?_
          refine pu (i := 1) (N := some 16) (bl 36 3) (any_of HT_.out (by kernel_rfl)) ?_
          refine pu (i := 2) (N := some 17) (bl 36 7) (any_of HT_.out (by kernel_rfl)) ?_
          refine pu (i := 3) (N := some 18) (bl 36 15) (any_of HT_.out (by kernel_rfl)) ?_
          refine ta (i := 4) (N := some 19) (bl 36 31) (take_ofW HT_.out HW_.out (by kernel_rfl)) hHeld ?_
          refine pu (i := 5) (N := some 20) (bl 36 63) (any_of HT_.out (by kernel_rfl)) ?_
          refine pu (i := 6) (N := some 21) (bl 36 127) (any_of HT_.out (by kernel_rfl)) ?_
          refine pu (i := 7) (N := some 22) (bl 36 255) (any_of HT_.out (by kernel_rfl)) ?_
          refine pu (i := 8) (N := some 23) (bl 36 511) (any_of HT_.out (by kernel_rfl)) ?_
          refine pu (i := 9) (N := some 24) (bl 36 1023) (any_of HT_.out (by kernel_rfl)) ?_
          refine pu (i := 10) (N := some 25) (bl 36 2047) (any_of HT_.out (by kernel_rfl)) ?_
          refine pu (i := 12) (N := some 27) (bl 36 6143) (any_of HT_.out (by kernel_rfl)) ?_
          refine ta (i := 11) (N := some 26) (bl 36 8191) (take_ofW HT_.out HW_.out (by kernel_rfl)) hHeld ?_
          refine ta (i := 13) (N := some 28) (bl 36 16383) (take_ofW HT_.out HW_.out (by kernel_rfl)) hHeld ?_
          refine pu (i := 14) (N := some 29) (bl 36 32767) (any_of HT_.out (by kernel_rfl)) ?_
          refine pu (i := 15) (N := some 30) (bl 36 65535) (any_of HT_.out (by kernel_rfl)) ?_
          refine pu (i := 16) (N := some 31) (bl 36 131071) (any_of HT_.out (by kernel_rfl)) ?_
          refine pu (i := 17) (N := some 32) (bl 36 262143) (any_of HT_.out (by kernel_rfl)) ?_
          refine pu (i := 18) (N := some 33) (bl 36 524287) (any_of HT_.out (by kernel_rfl)) ?_
          refine pu (i := 19) (N := some 34) (bl 36 1048575) (any_of HT_.out (by kernel_rfl)) ?_
          refine pu (i := 20) (N := some 35) (bl 36 2097151) (any_of HT_.out (by kernel_rfl)) ?_
          refine po (i := 21) (N := some 36) (bl 36 4194303) (any_of HT_.out (by kernel_rfl)) ?_
          refine po (i := 22) (N := some 37) (bl 36 8388607) (any_of HT_.out (by kernel_rfl)) ?_
          refine po (i := 23) (N := some 38) (bl 36 16777215) (any_of HT_.out (by kernel_rfl)) ?_
          refine po (i := 24) (N := some 39) (bl 36 33554431) (any_of HT_.out (by kernel_rfl)) ?_
          refine po (i := 25) (N := some 40) (bl 36 67108863) (any_of HT_.out (by kernel_rfl)) ?_
          refine po (i := 26) (N := some 41) (bl 36 134217727) (any_of HT_.out (by kernel_rfl)) ?_
          refine po (i := 27) (N := some 42) (bl 36 268435455) (any_of HT_.out (by kernel_rfl)) ?_
          refine po (i := 28) (N := some 43) (bl 36 536870911) (any_of HT_.out (by kernel_rfl)) ?_
          refine po (i := 29) (N := some 44) (bl 36 1073741823) (any_of HT_.out (by kernel_rfl)) ?_
          refine po (i := 30) (N := some 45) (bl 36 2147483647) (any_of HT_.out (by kernel_rfl)) ?_
          refine po (i := 31) (N := some 46) (bl 36 4294967295) (any_of HT_.out (by kernel_rfl)) ?_
          refine po (i := 32) (N := some 47) (bl 36 8589934591) (any_of HT_.out (by kernel_rfl)) ?_
          refine po (i := 33) (N := some 48) (bl 36 17179869183) (any_of HT_.out (by kernel_rfl)) ?_
          refine pu (i := 34) (N := some 49) (bl 36 34359738367) (any_of HT_.out (by kernel_rfl)) ?_
          refine pu (i := 35) (N := some 50) (bl 36 68719476735) (any_of HT_.out (by kernel_rfl)) ?_
          refine done_ (done_of HT_.out (by kernel_rfl)) ?_
          try go_wp2
          go_roundg k1
          case measure => have := HK1.out; omega
          case rel => exact ⟨(wrap64 (x5_1 + 1)), (by first | rfl | (simp; done) | (simp [*]; done)), H', ⟨by have := HK1.out; omega⟩, ⟨by (with_reducible repeat (first | refine blk_drewN ?_ _ | refine blk_drew ?_ | refine blk_alloc ?_ _)); exact BK390.out⟩, ⟨by repeat (first | (with_reducible first | exact HB.out | apply below_alloc | apply pw_below_drewN | apply below_drew1 | refine below_set ?_ GE390.out) | exact HB.out)⟩⟩
        ·rw [if_neg c13] at H
         have c13b0 : ((Int.tmod ((rd_T43 l1 x5_1).f1) a0_2) == 0) = false := beq_eq_false_iff_ne.mpr c13
         have c13b1 : ((Int.tmod ((rd_T43 l1 x5_1).f1) a0_2) != 0) = true := bne_iff_ne.mpr c13
         obtain rfl := Option.some.inj H
         try go_wp2
         have n0_ := Aside0.mk (blk_drew BK390.out)
         have n1_ := Aside0.mk (below_drew1 HB.out)
         clear BK390
         clear HB
         have BK390 := n0_
         have HB := n1_
         clear n0_ n1_
         have p391 : 0 ≤ (x5_1 : Int) := of_decide_eq_true (by first | (with_reducible assumption) | assumption)
         have q391 : x5_1 < (l1.length : Int) := of_decide_eq_true (by first | (with_reducible assumption) | assumption)
         obtain ⟨ad391, A391_0, c391_0, e391, hx391_0, hx391_1, hl391_0, hi391_0⟩ := at_T43 HR1.out x5_1 p391 q391
         have hw391_1 := hx391_1
         have hw391_0 := hx391_0
         cases e391
         replace hx391_0 := (HB.out.cell (World.block_lt_of_cell? w _ hx391_0)).trans hx391_0
         replace hx391_1 := (HB.out.cell (World.block_lt_of_cell? w _ hx391_1)).trans hx391_1
         have HR391_0 := Aside0.mk hi391_0
         have HC391_0 := Aside0.mk hl391_0
         clear hi391_0 hl391_0
         replace p391 := eq_true p391
         replace q391 := eq_true q391
         have p392 : 0 ≤ (x5_1 : Int) := of_decide_eq_true (by first | (with_reducible assumption) | assumption)
         have q392 : x5_1 < (l1.length : Int) := of_decide_eq_true (by first | (with_reducible assumption) | assumption)
         obtain ⟨ad392, A392_0, c392_0, e392, hx392_0, hx392_1, hl392_0, hi392_0⟩ := at_T43 HR1.out x5_1 p392 q392
         have hw392_1 := hx392_1
         have hw392_0 := hx392_0
         obtain rfl : ad391 = ad392 := (by injection e392)
         replace hx392_0 := (HB.out.cell (World.block_lt_of_cell? w _ hx392_0)).trans hx392_0
         replace hx392_1 := (HB.out.cell (World.block_lt_of_cell? w _ hx392_1)).trans hx392_1
         have HR392_0 := Aside0.mk hi392_0
         have HC392_0 := Aside0.mk hl392_0
         clear hi392_0 hl392_0
         replace p392 := eq_true p392
         replace q392 := eq_true q392
         have ea_ := Option.some.inj (hx391_0.symm.trans hx392_0)
         injection ea_ with ea_ en_ ec_
         subst ea_
         subst ec_
         clear en_
         refine start_ (n := 36) (S := fun w' => w'.cell? ⟨gb390, 0, none⟩ = some (.string a0_0) ∧ w'.cell? ⟨gb390, 1, none⟩ = some (.string a0_1) ∧ w'.cell? ⟨gb390, 2, none⟩ = some (.int .i64 a0_2) ∧ w'.cell? (ad391.add ((x5_1).toNat * 2)) = some (.slice A391_0 ((rd_T43 l1 x5_1).f0).length c391_0) ∧ w'.cell? ⟨(ad391.add ((x5_1).toNat * 2)).block, (ad391.add ((x5_1).toNat * 2)).off + 1, none⟩ = some (.int .i64 ((rd_T43 l1 x5_1).f1)) ∧ w'.cell? (ad391.add ((x5_1).toNat * 2)) = some (.slice A391_0 ((rd_T43 l1 x5_1).f0).length c391_0) ∧ w'.cell? ⟨(ad391.add ((x5_1).toNat * 2)).block, (ad391.add ((x5_1).toNat * 2)).off + 1, none⟩ = some (.int .i64 ((rd_T43 l1 x5_1).f1))) (ds := []) #[false, false, false, false, false, false, false, false, false, false, false, false, false, false, false, false, false, false, false, false, false, false, false, false, false, false, false, false, false, false, false, false, false, false, false, false] (by kernel_rfl) rfl rfl ⟨(blk_cell BK390.out 0).trans rfl, (blk_cell BK390.out 1).trans rfl, (blk_cell BK390.out 2).trans rfl, ((HB.out.cell (World.block_lt_of_cell? w _ hw391_0)).trans hw391_0), ((HB.out.cell (World.block_lt_of_cell? w _ hw391_1)).trans hw391_1), ((HB.out.cell (World.block_lt_of_cell? w _ hw392_0)).trans hw392_0), ((HB.out.cell (World.block_lt_of_cell? w _ hw392_1)).trans hw392_1)⟩ (fun hHeld => ?_); refine with_tabW release_Valid.tab6 release_Valid.bits6 (fun HT_ HW_ => ?_)
         generalize wr.drew = w25 at BK390 HB HR391_0 HR392_0 hx391_0 hx391_1 hx392_0 hx392_1 hHeld ⊢
         refine pu (i := 0) (N := some 15) (bl 36 1) (any_of HT_.out (by kernel_rfl)) ?_
         refine pu (i := 1) (N := some 16) (bl 36 3) (any_of HT_.out (by kernel_rfl)) ?_
         refine pu (i := 2) (N := some 17) (bl 36 7) (any_of HT_.out (by kernel_rfl)) ?_
         refine pu (i := 3) (N := some 18) (bl 36 15) (any_of HT_.out (by kernel_rfl)) ?_
         refine ta (i := 4) (N := some 19) (bl 36 31) (take_ofW HT_.out HW_.out (by kernel_rfl)) hHeld ?_
         refine pu (i := 5) (N := some 20) (bl 36 63) (any_of HT_.out (by kernel_rfl)) ?_
         refine pu (i := 6) (N := some 21) (bl 36 127) (any_of HT_.out (by kernel_rfl)) ?_
         refine pu (i := 7) (N := some 22) (bl 36 255) (any_of HT_.out (by kernel_rfl)) ?_
         refine pu (i := 8) (N := some 23) (bl 36 511) (any_of HT_.out (by kernel_rfl)) ?_
         refine pu (i := 9) (N := some 24) (bl 36 1023) (any_of HT_.out (by kernel_rfl)) ?_
         refine pu (i := 10) (N := some 25) (bl 36 2047) (any_of HT_.out (by kernel_rfl)) ?_
         refine pu (i := 12) (N := some 27) (bl 36 6143) (any_of HT_.out (by kernel_rfl)) ?_
         refine ta (i := 11) (N := some 26) (bl 36 8191) (take_ofW HT_.out HW_.out (by kernel_rfl)) hHeld ?_
         refine ta (i := 13) (N := some 28) (bl 36 16383) (take_ofW HT_.out HW_.out (by kernel_rfl)) hHeld ?_
         refine pu (i := 14) (N := some 29) (bl 36 32767) (any_of HT_.out (by kernel_rfl)) ?_
         refine pu (i := 15) (N := some 30) (bl 36 65535) (any_of HT_.out (by kernel_rfl)) ?_
         refine pu (i := 16) (N := some 31) (bl 36 131071) (any_of HT_.out (by kernel_rfl)) ?_
         refine pu (i := 17) (N := some 32) (bl 36 262143) (any_of HT_.out (by kernel_rfl)) ?_
         refine po (i := 18) (N := some 33) (bl 36 524287) (any_of HT_.out (by kernel_rfl)) ?_
         refine po (i := 19) (N := some 34) (bl 36 1048575) (any_of HT_.out (by kernel_rfl)) ?_
         refine po (i := 20) (N := some 35) (bl 36 2097151) (any_of HT_.out (by kernel_rfl)) ?_
         refine po (i := 21) (N := some 36) (bl 36 4194303) (any_of HT_.out (by kernel_rfl)) ?_
         refine po (i := 22) (N := some 37) (bl 36 8388607) (any_of HT_.out (by kernel_rfl)) ?_
         refine po (i := 23) (N := some 38) (bl 36 16777215) (any_of HT_.out (by kernel_rfl)) ?_
         refine po (i := 24) (N := some 39) (bl 36 33554431) (any_of HT_.out (by kernel_rfl)) ?_
         refine po (i := 25) (N := some 40) (bl 36 67108863) (any_of HT_.out (by kernel_rfl)) ?_
         refine po (i := 26) (N := some 41) (bl 36 134217727) (any_of HT_.out (by kernel_rfl)) ?_
         refine po (i := 27) (N := some 42) (bl 36 268435455) (any_of HT_.out (by kernel_rfl)) ?_
         refine po (i := 28) (N := some 43) (bl 36 536870911) (any_of HT_.out (by kernel_rfl)) ?_
         refine po (i := 29) (N := some 44) (bl 36 1073741823) (any_of HT_.out (by kernel_rfl)) ?_
         refine po (i := 30) (N := some 45) (bl 36 2147483647) (any_of HT_.out (by kernel_rfl)) ?_
         refine po (i := 31) (N := some 46) (bl 36 4294967295) (any_of HT_.out (by kernel_rfl)) ?_
         refine po (i := 32) (N := some 47) (bl 36 8589934591) (any_of HT_.out (by kernel_rfl)) ?_
         refine po (i := 33) (N := some 48) (bl 36 17179869183) (any_of HT_.out (by kernel_rfl)) ?_
         refine po (i := 34) (N := some 49) (bl 36 34359738367) (any_of HT_.out (by kernel_rfl)) ?_
         refine pu (i := 35) (N := some 50) (bl 36 68719476735) (any_of HT_.out (by kernel_rfl)) ?_
         refine done_ (done_of HT_.out (by kernel_rfl)) ?_
         try go_wp2
         go_ret
         exact ⟨by first | rfl | (simp [errW_none, errW_some] <;> rfl) | (simp [*, errW_none, errW_some] <;> rfl), by repeat (first | (with_reducible first | exact HB.out | apply below_alloc | apply pw_below_drewN | apply below_drew1 | refine below_set ?_ GE390.out) | exact HB.out)⟩
     ·rw [if_neg c9] at H
      exact absurd H (by simp)
    ·rw [if_neg c8] at H
     have c8b0 : decide (x5_1 < (l1.length : Int)) = false := decide_eq_false c8
     clear c8
     obtain rfl := Option.some.inj H
     go_wp2
     go_ret
     exact ⟨by first | rfl | (simp [errW_none, errW_some] <;> rfl) | (simp [*, errW_none, errW_some] <;> rfl), by repeat (first | (with_reducible first | exact HB.out | apply below_alloc | apply pw_below_drewN | apply below_drew1 | refine below_set ?_ GE390.out) | exact HB.out)⟩
end Go.Proofs.Ytjhnpaenhdbhpaa.P
namespace Go.Proofs.Ytjhnpaenhdbhpaa.P
open Go.RowKit Go.Proofs.YtjhnpaenhdbhpaaW.PrintWords Go.Proofs.YtjhnpaenhdbhpaaW.PrintLast Go.Proofs.YtjhnpaenhdbhpaaW.PrintMore
attribute [local go_sem] max2_int min2_int max_two min_two max_three min_three max_four min_four
set_option linter.unusedVariables false
set_option linter.unusedSimpArgs false
attribute [local go_sem high] eqA38
def erasureref01_Compare.f (a0_0 : Int) (a0_1 : Int) (a0_2 : ByteArray) (a1_0 : Int) (a1_1 : Int) (a1_2 : ByteArray) : Option (Int) := (erasureref01_Clean.f a0_0 a0_1 a0_2).bind fun bt180 => ((erasureref01_Clean.f a1_0 a1_1 a1_2).bind fun bt183 => (if (bt180.1 == bt183.1 && (bt180.2.1 == bt183.2.1 && (bt180.2.2.toList == bt183.2.2.toList))) = true then (some 0) else (if bt180.1 < bt183.1 then (some (-1)) else (if bt180.1 = bt183.1 then (if bt180.2.1 < bt183.2.1 then (some (-1)) else (if (Op.bytesLess bt180.2.2.toList bt183.2.2.toList) = true then (some (-1)) else (some 1))) else (some 1)))))
set_option maxHeartbeats 8000000 in
set_option maxRecDepth 100000 in
theorem erasureref01_Compare.calls (a0_0 : Int) (a0_1 : Int) (a0_2 : ByteArray) (a1_0 : Int) (a1_1 : Int) (a1_2 : ByteArray) (r : Int) (w : World) (h : erasureref01_Compare.f a0_0 a0_1 a0_2 a1_0 a1_1 a1_2 = some r) :
  Calls Try.prog 50 #[.agg #[.int .i64 a0_0, .int .i64 a0_1, .string a0_2], .agg #[.int .i64 a1_0, .int .i64 a1_1, .string a1_2]] w fun e w' => e = .returned (.int .i64 r) ∧ Below w.heap.size w w' := by
 have hu38 := Try.underlying38
 have HB := Aside0.mk (Below.refl w.heap.size w)
 have H : ((erasureref01_Clean.f a0_0 a0_1 a0_2).bind fun bt180 => ((erasureref01_Clean.f a1_0 a1_1 a1_2).bind fun bt183 => (if (bt180.1 == bt183.1 && (bt180.2.1 == bt183.2.1 && (bt180.2.2.toList == bt183.2.2.toList))) = true then (some 0) else (if bt180.1 < bt183.1 then (some (-1)) else (if bt180.1 = bt183.1 then (if bt180.2.1 < bt183.2.1 then (some (-1)) else (if (Op.bytesLess bt180.2.2.toList bt183.2.2.toList) = true then (some (-1)) else (some 1))) else (some 1)))))) = some r := h
 clear h
 replace H := Option.bind_eq_some_iff.mp H
 obtain ⟨⟨t180, t181, t182⟩, A30, H⟩ := H
 replace H : ((erasureref01_Clean.f a1_0 a1_1 a1_2).bind fun bt183 => (if (t180 == bt183.1 && (t181 == bt183.2.1 && (t182.toList == bt183.2.2.toList))) = true then (some 0) else (if t180 < bt183.1 then (some (-1)) else (if t180 = bt183.1 then (if t181 < bt183.2.1 then (some (-1)) else (if (Op.bytesLess t182.toList bt183.2.2.toList) = true then (some (-1)) else (some 1))) else (some 1))))) = some r := H
 have A3 := Aside0.mk A30
 clear A30
 replace H := Option.bind_eq_some_iff.mp H
 obtain ⟨⟨t183, t184, t185⟩, A40, H⟩ := H
 replace H : (if (t180 == t183 && (t181 == t184 && (t182.toList == t185.toList))) = true then (some 0) else (if t180 < t183 then (some (-1)) else (if t180 = t183 then (if t181 < t184 then (some (-1)) else (if (Op.bytesLess t182.toList t185.toList) = true then (some (-1)) else (some 1))) else (some 1)))) = some r := H
 have A4 := Aside0.mk A40
 clear A40
 by_cases c5 : (t180 == t183 && (t181 == t184 && (t182.toList == t185.toList))) = true
 ·rw [if_pos c5] at H
  have c5b0 : (t180 == t183 && (t181 == t184 && (t182.toList == t185.toList))) = true := c5
  (try (have c5b1 : decide (t180 = t183 && (t181 == t184 && (t182.toList == t185.toList))) = true := by simpa using c5))
  (try (have c5b2 : (t180 == t183 && (t181 == t184 && (t182.toList == t185.toList))) = true := by simpa using c5))
  clear c5
  obtain rfl := Option.some.inj H
  go_enter Try.func50, Try.ntmps50
  try go_wp2_with (first | ((with_reducible refine gate_dst (N := 2) rfl ?_); refine box_event ?hg (N := 2) ?hd (cs := #[.int .i64 a0_0, .int .i64 a0_1, .string a0_2]) (t := 38) ?hr ?_; (case hd => rfl); (case hg => rfl); (case hr => first | (go_simp; done) | (go_simp; rfl)); intro gb178 hg w6 hbox hb; have n0_ := Aside0.mk (below_step (by repeat (first | (with_reducible first | exact HB.out | apply below_alloc | apply pw_below_drewN | apply below_drew1) | exact HB.out)) hb); have n1_ := Aside0.mk (hbox); have n2_ := Aside0.mk ((by rw [hg]; exact (below_size (by repeat (first | (with_reducible first | exact HB.out | apply below_alloc | apply pw_below_drewN | apply below_drew1) | exact HB.out))) : w.heap.size ≤ gb178)); have n3_ := Aside0.mk ((by rw [hg]; exact (below_size (by repeat (first | (with_reducible first | exact HB.out | apply below_alloc | apply pw_below_drewN | apply below_drew1) | exact HB.out))) : w.heap.size ≤ gb178)); clear HB; have HB := n0_; have BK178 := n1_; have GW178 := n2_; have GE178 := n3_; clear n0_ n1_ n2_ n3_; clear hb hbox hg) | ((with_reducible refine gate_dst (N := 3) rfl ?_); refine box_event ?hg (N := 3) ?hd (cs := #[.int .i64 a1_0, .int .i64 a1_1, .string a1_2]) (t := 38) ?hr ?_; (case hd => rfl); (case hg => rfl); (case hr => first | (go_simp; done) | (go_simp; rfl)); intro gb179 hg w7 hbox hb; have n0_ := Aside0.mk (blk_below (g := gb178) (o := .cells #[.int .i64 a0_0, .int .i64 a0_1, .string a0_2] 38 (0, 0)) (by (with_reducible repeat (first | refine blk_drewN ?_ _ | refine blk_drew ?_ | refine blk_alloc ?_ _)); exact BK178.out) hb); have n1_ := Aside0.mk (below_step (by repeat (first | (with_reducible first | exact HB.out | apply below_alloc | apply pw_below_drewN | apply below_drew1 | refine below_set ?_ GE178.out) | exact HB.out)) hb); have n2_ := Aside0.mk (hbox); have n3_ := Aside0.mk ((by rw [hg]; exact (below_size (by repeat (first | (with_reducible first | exact HB.out | apply below_alloc | apply pw_below_drewN | apply below_drew1 | refine below_set ?_ GE178.out) | exact HB.out))) : w.heap.size ≤ gb179)); have n4_ := Aside0.mk ((by rw [hg]; exact (below_size (by repeat (first | (with_reducible first | exact HB.out | apply below_alloc | apply pw_below_drewN | apply below_drew1 | refine below_set ?_ GE178.out) | exact HB.out))) : w.heap.size ≤ gb179)); have n5_ := Aside0.mk ((by rw [hg]; exact Nat.ne_of_lt (blk_lt (g := gb178) (o := .cells #[.int .i64 a0_0, .int .i64 a0_1, .string a0_2] 38 (0, 0)) (by (with_reducible repeat (first | refine blk_drewN ?_ _ | refine blk_drew ?_ | refine blk_alloc ?_ _)); exact BK178.out)) : gb178 ≠ gb179)); have n6_ := Aside0.mk ((by rw [hg]; exact Nat.ne_of_gt (blk_lt (g := gb178) (o := .cells #[.int .i64 a0_0, .int .i64 a0_1, .string a0_2] 38 (0, 0)) (by (with_reducible repeat (first | refine blk_drewN ?_ _ | refine blk_drew ?_ | refine blk_alloc ?_ _)); exact BK178.out)) : gb179 ≠ gb178)); clear BK178; clear HB; have BK178 := n0_; have HB := n1_; have BK179 := n2_; have GW179 := n3_; have GE179 := n4_; have NB178_179 := n5_; have NB179_178 := n6_; clear n0_ n1_ n2_ n3_ n4_ n5_ n6_; clear hb hbox hg))
  have n0_ := Aside0.mk (blk_drew BK178.out)
  have n1_ := Aside0.mk (blk_drew BK179.out)
  have n2_ := Aside0.mk (below_drew1 HB.out)
  clear BK178
  clear BK179
  clear HB
  have BK178 := n0_
  have BK179 := n1_
  have HB := n2_
  clear n0_ n1_ n2_
  refine start_ (n := 6) (S := fun w' => w'.cell? ⟨gb178, 0, none⟩ = some (.int .i64 a0_0) ∧ w'.cell? ⟨gb178, 1, none⟩ = some (.int .i64 a0_1) ∧ w'.cell? ⟨gb178, 2, none⟩ = some (.string a0_2) ∧ w'.cell? ⟨gb179, 0, none⟩ = some (.int .i64 a1_0) ∧ w'.cell? ⟨gb179, 1, none⟩ = some (.int .i64 a1_1) ∧ w'.cell? ⟨gb179, 2, none⟩ = some (.string a1_2)) (ds := [4, 5]) #[false, false, false, false, false, false] (by kernel_rfl) rfl rfl ⟨(blk_cell BK178.out 0).trans rfl, (blk_cell BK178.out 1).trans rfl, (blk_cell BK178.out 2).trans rfl, (blk_cell BK179.out 0).trans rfl, (blk_cell BK179.out 1).trans rfl, (blk_cell BK179.out 2).trans rfl⟩ (fun hHeld => ?_)
  generalize w7.drew = w8 at BK178 BK179 HB hHeld ⊢
  refine ta (i := 0) (N := some 5) (bl 6 1) (by kernel_rfl) hHeld ?_
  refine ta (i := 2) (N := some 7) (bl 6 5) (by kernel_rfl) hHeld ?_
  refine one_ (i := 1) (N := some 6) (bl 6 7) rfl rfl (by kernel_rfl) (by decide) (fun K hK => ?_)
  refine goes_ Try.func39 (by kernel_rfl) rfl #[.agg #[.int .i64 a0_0, .int .i64 a0_1, .string a0_2]] (by rfl) rfl rfl (by (try simp only [List.map_toArray, List.map_cons, List.map_nil]); first | done | rfl | (simp only [List.length_drop, List.length_take]; rfl)) ?_
  with_reducible refine (erasureref01_Clean.calls a0_0 a0_1 a0_2 t180 t181 t182 _ A3.out).mono ?_
  rintro e w9 ⟨rfl, hb⟩
  refine ⟨_, rfl, ?_⟩
  have n0_ := Aside0.mk (blk_below (g := gb178) (o := .cells #[.int .i64 a0_0, .int .i64 a0_1, .string a0_2] 38 (0, 0)) (by (with_reducible repeat (first | refine blk_drewN ?_ _ | refine blk_drew ?_ | refine blk_alloc ?_ _)); exact BK178.out) hb)
  have n1_ := Aside0.mk (blk_below (g := gb179) (o := .cells #[.int .i64 a1_0, .int .i64 a1_1, .string a1_2] 38 (0, 0)) (by (with_reducible repeat (first | refine blk_drewN ?_ _ | refine blk_drew ?_ | refine blk_alloc ?_ _)); exact BK179.out) hb)
  have n2_ := Aside0.mk (below_step (by repeat (first | (with_reducible first | exact HB.out | apply below_alloc | apply pw_below_drewN | apply below_drew1 | refine below_set ?_ GE178.out | refine below_set ?_ GE179.out) | exact HB.out)) hb)
  clear BK178
  clear BK179
  clear HB
  have BK178 := n0_
  have BK179 := n1_
  have HB := n2_
  clear n0_ n1_ n2_
  (try clear hb)
  (try clear hb2)
  (try clear hk)
  (try clear hi)
  refine hK.out _ _ ⟨(blk_cell BK178.out 0).trans rfl, (blk_cell BK178.out 1).trans rfl, (blk_cell BK178.out 2).trans rfl, (blk_cell BK179.out 0).trans rfl, (blk_cell BK179.out 1).trans rfl, (blk_cell BK179.out 2).trans rfl⟩ (fun hHeld => ?_)
  clear hK K
  refine norm_ (a' := ?_) ?_ ?_
  rotate_left
  ·show Act.put _ (some 6) _ = _
   simp only [Act.put, List.setIfInBounds_toArray, List.set_cons_zero, List.set_cons_succ, i64_w, i32_w]
   rfl
  refine one_ (i := 3) (N := some 8) (bl 6 15) rfl rfl (by kernel_rfl) (by decide) (fun K hK => ?_)
  refine goes_ Try.func39 (by kernel_rfl) rfl #[.agg #[.int .i64 a1_0, .int .i64 a1_1, .string a1_2]] (by rfl) rfl rfl (by (try simp only [List.map_toArray, List.map_cons, List.map_nil]); first | done | rfl | (simp only [List.length_drop, List.length_take]; rfl)) ?_
  with_reducible refine (erasureref01_Clean.calls a1_0 a1_1 a1_2 t183 t184 t185 _ A4.out).mono ?_
  rintro e w10 ⟨rfl, hb⟩
  refine ⟨_, rfl, ?_⟩
  have n0_ := Aside0.mk (blk_below (g := gb178) (o := .cells #[.int .i64 a0_0, .int .i64 a0_1, .string a0_2] 38 (0, 0)) (by (with_reducible repeat (first | refine blk_drewN ?_ _ | refine blk_drew ?_ | refine blk_alloc ?_ _)); exact BK178.out) hb)
  have n1_ := Aside0.mk (blk_below (g := gb179) (o := .cells #[.int .i64 a1_0, .int .i64 a1_1, .string a1_2] 38 (0, 0)) (by (with_reducible repeat (first | refine blk_drewN ?_ _ | refine blk_drew ?_ | refine blk_alloc ?_ _)); exact BK179.out) hb)
  have n2_ := Aside0.mk (below_step (by repeat (first | (with_reducible first | exact HB.out | apply below_alloc | apply pw_below_drewN | apply below_drew1 | refine below_set ?_ GE178.out | refine below_set ?_ GE179.out) | exact HB.out)) hb)
  clear BK178
  clear BK179
  clear HB
  have BK178 := n0_
  have BK179 := n1_
  have HB := n2_
  clear n0_ n1_ n2_
  (try clear hb)
  (try clear hb2)
  (try clear hk)
  (try clear hi)
  refine hK.out _ _ ⟨(blk_cell BK178.out 0).trans rfl, (blk_cell BK178.out 1).trans rfl, (blk_cell BK178.out 2).trans rfl, (blk_cell BK179.out 0).trans rfl, (blk_cell BK179.out 1).trans rfl, (blk_cell BK179.out 2).trans rfl⟩ (fun hHeld => ?_)
  clear hK K
  refine norm_ (a' := ?_) ?_ ?_
  rotate_left
  ·show Act.put _ (some 8) _ = _
   simp only [Act.put, List.setIfInBounds_toArray, List.set_cons_zero, List.set_cons_succ, i64_w, i32_w]
   rfl
  refine last_ (i := 4) (N := none) (bl 6 31) rfl rfl (by kernel_rfl) (by decide) (fun K hK => ?_)
  have hs11 : w10.cell? ⟨gb178, 0, none⟩ = some (.int .i64 a0_0) := (blk_cell BK178.out 0).trans rfl
  have hfs11 := blk_frozen BK178.out 0
  have hns11_1 := NB179_178.out
  have hms11_1 := NB178_179.out
  have hs12 : w10.cell? ⟨gb178, 1, none⟩ = some (.int .i64 a0_1) := (blk_cell BK178.out 1).trans rfl
  have hfs12 := blk_frozen BK178.out 1
  have hns12_1 := NB179_178.out
  have hms12_1 := NB178_179.out
  have hs13 : w10.cell? ⟨gb178, 2, none⟩ = some (.string a0_2) := (blk_cell BK178.out 2).trans rfl
  have hfs13 := blk_frozen BK178.out 2
  have hns13_1 := NB179_178.out
  have hms13_1 := NB178_179.out
  refine skip_ (w1 := ?_) (by rfl) rfl ?_ ?_
  rotate_left
  ·go_simp
   rfl
  refine hK.out _ _ ?_
  clear hK K
  refine last_ (i := 5) (N := none) (bl 6 63) rfl rfl (by kernel_rfl) (by decide) (fun K hK => ?_)
  have hs14 : w10.cell? ⟨gb179, 0, none⟩ = some (.int .i64 a1_0) := (blk_cell BK179.out 0).trans rfl
  have hfs14 := blk_frozen BK179.out 0
  have hns14_0 := NB178_179.out
  have hms14_0 := NB179_178.out
  have hs15 : w10.cell? ⟨gb179, 1, none⟩ = some (.int .i64 a1_1) := (blk_cell BK179.out 1).trans rfl
  have hfs15 := blk_frozen BK179.out 1
  have hns15_0 := NB178_179.out
  have hms15_0 := NB179_178.out
  have hs16 : w10.cell? ⟨gb179, 2, none⟩ = some (.string a1_2) := (blk_cell BK179.out 2).trans rfl
  have hfs16 := blk_frozen BK179.out 2
  have hns16_0 := NB178_179.out
  have hms16_0 := NB179_178.out
  refine skip_ (w1 := ?_) (by rfl) rfl ?_ ?_
  rotate_left
  ·go_simp
   rfl
  refine hK.out _ _ ?_
  clear hK K
  refine done_ (by kernel_rfl) ?_
  have hnb17 := NB178_179.out
  have hnc17 := NB179_178.out
  have hcz18_0 : w10.cell? ⟨gb178, 0, none⟩ = some (.int .i64 a0_0) := (blk_cell BK178.out 0).trans rfl
  have hcz18_1 : w10.cell? ⟨gb178, 1, none⟩ = some (.int .i64 a0_1) := (blk_cell BK178.out 1).trans rfl
  have hcz18_2 : w10.cell? ⟨gb178, 2, none⟩ = some (.string a0_2) := (blk_cell BK178.out 2).trans rfl
  have hfz18_0 := blk_frozen BK178.out 0
  have hfz18_1 := blk_frozen BK178.out 1
  have hfz18_2 := blk_frozen BK178.out 2
  have hcz19_0 : w10.cell? ⟨gb179, 0, none⟩ = some (.int .i64 a1_0) := (blk_cell BK179.out 0).trans rfl
  have hcz19_1 : w10.cell? ⟨gb179, 1, none⟩ = some (.int .i64 a1_1) := (blk_cell BK179.out 1).trans rfl
  have hcz19_2 : w10.cell? ⟨gb179, 2, none⟩ = some (.string a1_2) := (blk_cell BK179.out 2).trans rfl
  have hfz19_0 := blk_frozen BK179.out 0
  have hfz19_1 := blk_frozen BK179.out 1
  have hfz19_2 := blk_frozen BK179.out 2
  try go_wp2
  go_ret
  exact ⟨by first | rfl | (simp [errW_none, errW_some] <;> rfl) | (simp [*, errW_none, errW_some] <;> rfl), by repeat (first | (with_reducible first | exact HB.out | apply below_alloc | apply pw_below_drewN | apply below_drew1 | refine below_set ?_ GE178.out | refine below_set ?_ GE179.out) | exact HB.out)⟩
 ·rw [if_neg c5] at H
  have c5b0 : (t180 == t183 && (t181 == t184 && (t182.toList == t185.toList))) = false := by simpa using c5
  (try (have c5b1 : decide (t180 = t183 && (t181 == t184 && (t182.toList == t185.toList))) = false := by simpa using c5))
  (try (have c5b2 : (t180 == t183 && (t181 == t184 && (t182.toList == t185.toList))) = false := by simpa using c5))
  (try (have c5b3 : ¬ (t180 = t183 && (t181 == t184 && (t182.toList == t185.toList))) := by simpa using c5))
  clear c5
  by_cases c20 : t180 < t183
  ·rw [if_pos c20] at H
   have c20b0 : decide (t180 < t183) = true := decide_eq_true c20
   clear c20
   obtain rfl := Option.some.inj H
   go_enter Try.func50, Try.ntmps50
   try go_wp2_with (first | ((with_reducible refine gate_dst (N := 2) rfl ?_); refine box_event ?hg (N := 2) ?hd (cs := #[.int .i64 a0_0, .int .i64 a0_1, .string a0_2]) (t := 38) ?hr ?_; (case hd => rfl); (case hg => rfl); (case hr => first | (go_simp; done) | (go_simp; rfl)); intro gb178 hg w21 hbox hb; have n0_ := Aside0.mk (below_step (by repeat (first | (with_reducible first | exact HB.out | apply below_alloc | apply pw_below_drewN | apply below_drew1) | exact HB.out)) hb); have n1_ := Aside0.mk (hbox); have n2_ := Aside0.mk ((by rw [hg]; exact (below_size (by repeat (first | (with_reducible first | exact HB.out | apply below_alloc | apply pw_below_drewN | apply below_drew1) | exact HB.out))) : w.heap.size ≤ gb178)); have n3_ := Aside0.mk ((by rw [hg]; exact (below_size (by repeat (first | (with_reducible first | exact HB.out | apply below_alloc | apply pw_below_drewN | apply below_drew1) | exact HB.out))) : w.heap.size ≤ gb178)); clear HB; have HB := n0_; have BK178 := n1_; have GW178 := n2_; have GE178 := n3_; clear n0_ n1_ n2_ n3_; clear hb hbox hg) | ((with_reducible refine gate_dst (N := 3) rfl ?_); refine box_event ?hg (N := 3) ?hd (cs := #[.int .i64 a1_0, .int .i64 a1_1, .string a1_2]) (t := 38) ?hr ?_; (case hd => rfl); (case hg => rfl); (case hr => first | (go_simp; done) | (go_simp; rfl)); intro gb179 hg w22 hbox hb; have n0_ := Aside0.mk (blk_below (g := gb178) (o := .cells #[.int .i64 a0_0, .int .i64 a0_1, .string a0_2] 38 (0, 0)) (by (with_reducible repeat (first | refine blk_drewN ?_ _ | refine blk_drew ?_ | refine blk_alloc ?_ _)); exact BK178.out) hb); have n1_ := Aside0.mk (below_step (by repeat (first | (with_reducible first | exact HB.out | apply below_alloc | apply pw_below_drewN | apply below_drew1 | refine below_set ?_ GE178.out) | exact HB.out)) hb); have n2_ := Aside0.mk (hbox); have n3_ := Aside0.mk ((by rw [hg]; exact (below_size (by repeat (first | (with_reducible first | exact HB.out | apply below_alloc | apply pw_below_drewN | apply below_drew1 | refine below_set ?_ GE178.out) | exact HB.out))) : w.heap.size ≤ gb179)); have n4_ := Aside0.mk ((by rw [hg]; exact (below_size (by repeat (first | (with_reducible first | exact HB.out | apply below_alloc | apply pw_below_drewN | apply below_drew1 | refine below_set ?_ GE178.out) | exact HB.out))) : w.heap.size ≤ gb179)); have n5_ := Aside0.mk ((by rw [hg]; exact Nat.ne_of_lt (blk_lt (g := gb178) (o := .cells #[.int .i64 a0_0, .int .i64 a0_1, .string a0_2] 38 (0, 0)) (by (with_reducible repeat (first | refine blk_drewN ?_ _ | refine blk_drew ?_ | refine blk_alloc ?_ _)); exact BK178.out)) : gb178 ≠ gb179)); have n6_ := Aside0.mk ((by rw [hg]; exact Nat.ne_of_gt (blk_lt (g := gb178) (o := .cells #[.int .i64 a0_0, .int .i64 a0_1, .string a0_2] 38 (0, 0)) (by (with_reducible repeat (first | refine blk_drewN ?_ _ | refine blk_drew ?_ | refine blk_alloc ?_ _)); exact BK178.out)) : gb179 ≠ gb178)); clear BK178; clear HB; have BK178 := n0_; have HB := n1_; have BK179 := n2_; have GW179 := n3_; have GE179 := n4_; have NB178_179 := n5_; have NB179_178 := n6_; clear n0_ n1_ n2_ n3_ n4_ n5_ n6_; clear hb hbox hg))
   have n0_ := Aside0.mk (blk_drew BK178.out)
   have n1_ := Aside0.mk (blk_drew BK179.out)
   have n2_ := Aside0.mk (below_drew1 HB.out)
   clear BK178
   clear BK179
   clear HB
   have BK178 := n0_
   have BK179 := n1_
   have HB := n2_
   clear n0_ n1_ n2_
   refine start_ (n := 6) (S := fun w' => w'.cell? ⟨gb178, 0, none⟩ = some (.int .i64 a0_0) ∧ w'.cell? ⟨gb178, 1, none⟩ = some (.int .i64 a0_1) ∧ w'.cell? ⟨gb178, 2, none⟩ = some (.string a0_2) ∧ w'.cell? ⟨gb179, 0, none⟩ = some (.int .i64 a1_0) ∧ w'.cell? ⟨gb179, 1, none⟩ = some (.int .i64 a1_1) ∧ w'.cell? ⟨gb179, 2, none⟩ = some (.string a1_2)) (ds := [4, 5]) #[false, false, false, false, false, false] (by kernel_rfl) rfl rfl ⟨(blk_cell BK178.out 0).trans rfl, (blk_cell BK178.out 1).trans rfl, (blk_cell BK178.out 2).trans rfl, (blk_cell BK179.out 0).trans rfl, (blk_cell BK179.out 1).trans rfl, (blk_cell BK179.out 2).trans rfl⟩ (fun hHeld => ?_)
   generalize w22.drew = w23 at BK178 BK179 HB hHeld ⊢
   refine ta (i := 0) (N := some 5) (bl 6 1) (by kernel_rfl) hHeld ?_
   refine ta (i := 2) (N := some 7) (bl 6 5) (by kernel_rfl) hHeld ?_
   refine one_ (i := 1) (N := some 6) (bl 6 7) rfl rfl (by kernel_rfl) (by decide) (fun K hK => ?_)
   refine goes_ Try.func39 (by kernel_rfl) rfl #[.agg #[.int .i64 a0_0, .int .i64 a0_1, .string a0_2]] (by rfl) rfl rfl (by (try simp only [List.map_toArray, List.map_cons, List.map_nil]); first | done | rfl | (simp only [List.length_drop, List.length_take]; rfl)) ?_
   with_reducible refine (erasureref01_Clean.calls a0_0 a0_1 a0_2 t180 t181 t182 _ A3.out).mono ?_
   rintro e w24 ⟨rfl, hb⟩
   refine ⟨_, rfl, ?_⟩
   have n0_ := Aside0.mk (blk_below (g := gb178) (o := .cells #[.int .i64 a0_0, .int .i64 a0_1, .string a0_2] 38 (0, 0)) (by (with_reducible repeat (first | refine blk_drewN ?_ _ | refine blk_drew ?_ | refine blk_alloc ?_ _)); exact BK178.out) hb)
   have n1_ := Aside0.mk (blk_below (g := gb179) (o := .cells #[.int .i64 a1_0, .int .i64 a1_1, .string a1_2] 38 (0, 0)) (by (with_reducible repeat (first | refine blk_drewN ?_ _ | refine blk_drew ?_ | refine blk_alloc ?_ _)); exact BK179.out) hb)
   have n2_ := Aside0.mk (below_step (by repeat (first | (with_reducible first | exact HB.out | apply below_alloc | apply pw_below_drewN | apply below_drew1 | refine below_set ?_ GE178.out | refine below_set ?_ GE179.out) | exact HB.out)) hb)
   clear BK178
   clear BK179
   clear HB
   have BK178 := n0_
   have BK179 := n1_
   have HB := n2_
   clear n0_ n1_ n2_
   (try clear hb)
   (try clear hb2)
   (try clear hk)
   (try clear hi)
   refine hK.out _ _ ⟨(blk_cell BK178.out 0).trans rfl, (blk_cell BK178.out 1).trans rfl, (blk_cell BK178.out 2).trans rfl, (blk_cell BK179.out 0).trans rfl, (blk_cell BK179.out 1).trans rfl, (blk_cell BK179.out 2).trans rfl⟩ (fun hHeld => ?_)
   clear hK K
   refine norm_ (a' := ?_) ?_ ?_
   rotate_left
   ·show Act.put _ (some 6) _ = _
    simp only [Act.put, List.setIfInBounds_toArray, List.set_cons_zero, List.set_cons_succ, i64_w, i32_w]
    rfl
   refine one_ (i := 3) (N := some 8) (bl 6 15) rfl rfl (by kernel_rfl) (by decide) (fun K hK => ?_)
   refine goes_ Try.func39 (by kernel_rfl) rfl #[.agg #[.int .i64 a1_0, .int .i64 a1_1, .string a1_2]] (by rfl) rfl rfl (by (try simp only [List.map_toArray, List.map_cons, List.map_nil]); first | done | rfl | (simp only [List.length_drop, List.length_take]; rfl)) ?_
   with_reducible refine (erasureref01_Clean.calls a1_0 a1_1 a1_2 t183 t184 t185 _ A4.out).mono ?_
   rintro e w25 ⟨rfl, hb⟩
   refine ⟨_, rfl, ?_⟩
   have n0_ := Aside0.mk (blk_below (g := gb178) (o := .cells #[.int .i64 a0_0, .int .i64 a0_1, .string a0_2] 38 (0, 0)) (by (with_reducible repeat (first | refine blk_drewN ?_ _ | refine blk_drew ?_ | refine blk_alloc ?_ _)); exact BK178.out) hb)
   have n1_ := Aside0.mk (blk_below (g := gb179) (o := .cells #[.int .i64 a1_0, .int .i64 a1_1, .string a1_2] 38 (0, 0)) (by (with_reducible repeat (first | refine blk_drewN ?_ _ | refine blk_drew ?_ | refine blk_alloc ?_ _)); exact BK179.out) hb)
   have n2_ := Aside0.mk (below_step (by repeat (first | (with_reducible first | exact HB.out | apply below_alloc | apply pw_below_drewN | apply below_drew1 | refine below_set ?_ GE178.out | refine below_set ?_ GE179.out) | exact HB.out)) hb)
   clear BK178
   clear BK179
   clear HB
   have BK178 := n0_
   have BK179 := n1_
   have HB := n2_
   clear n0_ n1_ n2_
   (try clear hb)
   (try clear hb2)
   (try clear hk)
   (try clear hi)
   refine hK.out _ _ ⟨(blk_cell BK178.out 0).trans rfl, (blk_cell BK178.out 1).trans rfl, (blk_cell BK178.out 2).trans rfl, (blk_cell BK179.out 0).trans rfl, (blk_cell BK179.out 1).trans rfl, (blk_cell BK179.out 2).trans rfl⟩ (fun hHeld => ?_)
   clear hK K
   refine norm_ (a' := ?_) ?_ ?_
   rotate_left
   ·show Act.put _ (some 8) _ = _
    simp only [Act.put, List.setIfInBounds_toArray, List.set_cons_zero, List.set_cons_succ, i64_w, i32_w]
    rfl
   refine last_ (i := 4) (N := none) (bl 6 31) rfl rfl (by kernel_rfl) (by decide) (fun K hK => ?_)
   have hs26 : w25.cell? ⟨gb178, 0, none⟩ = some (.int .i64 a0_0) := (blk_cell BK178.out 0).trans rfl
   have hfs26 := blk_frozen BK178.out 0
   have hns26_1 := NB179_178.out
   have hms26_1 := NB178_179.out
   have hs27 : w25.cell? ⟨gb178, 1, none⟩ = some (.int .i64 a0_1) := (blk_cell BK178.out 1).trans rfl
   have hfs27 := blk_frozen BK178.out 1
   have hns27_1 := NB179_178.out
   have hms27_1 := NB178_179.out
   have hs28 : w25.cell? ⟨gb178, 2, none⟩ = some (.string a0_2) := (blk_cell BK178.out 2).trans rfl
   have hfs28 := blk_frozen BK178.out 2
   have hns28_1 := NB179_178.out
   have hms28_1 := NB178_179.out
   refine skip_ (w1 := ?_) (by rfl) rfl ?_ ?_
   rotate_left
   ·go_simp
    rfl
   refine hK.out _ _ ?_
   clear hK K
   refine last_ (i := 5) (N := none) (bl 6 63) rfl rfl (by kernel_rfl) (by decide) (fun K hK => ?_)
   have hs29 : w25.cell? ⟨gb179, 0, none⟩ = some (.int .i64 a1_0) := (blk_cell BK179.out 0).trans rfl
   have hfs29 := blk_frozen BK179.out 0
   have hns29_0 := NB178_179.out
   have hms29_0 := NB179_178.out
   have hs30 : w25.cell? ⟨gb179, 1, none⟩ = some (.int .i64 a1_1) := (blk_cell BK179.out 1).trans rfl
   have hfs30 := blk_frozen BK179.out 1
   have hns30_0 := NB178_179.out
   have hms30_0 := NB179_178.out
   have hs31 : w25.cell? ⟨gb179, 2, none⟩ = some (.string a1_2) := (blk_cell BK179.out 2).trans rfl
   have hfs31 := blk_frozen BK179.out 2
   have hns31_0 := NB178_179.out
   have hms31_0 := NB179_178.out
   refine skip_ (w1 := ?_) (by rfl) rfl ?_ ?_
   rotate_left
   ·go_simp
    rfl
   refine hK.out _ _ ?_
   clear hK K
   refine done_ (by kernel_rfl) ?_
   have hnb32 := NB178_179.out
   have hnc32 := NB179_178.out
   have hcz33_0 : w25.cell? ⟨gb178, 0, none⟩ = some (.int .i64 a0_0) := (blk_cell BK178.out 0).trans rfl
   have hcz33_1 : w25.cell? ⟨gb178, 1, none⟩ = some (.int .i64 a0_1) := (blk_cell BK178.out 1).trans rfl
   have hcz33_2 : w25.cell? ⟨gb178, 2, none⟩ = some (.string a0_2) := (blk_cell BK178.out 2).trans rfl
   have hfz33_0 := blk_frozen BK178.out 0
   have hfz33_1 := blk_frozen BK178.out 1
   have hfz33_2 := blk_frozen BK178.out 2
   have hcz34_0 : w25.cell? ⟨gb179, 0, none⟩ = some (.int .i64 a1_0) := (blk_cell BK179.out 0).trans rfl
   have hcz34_1 : w25.cell? ⟨gb179, 1, none⟩ = some (.int .i64 a1_1) := (blk_cell BK179.out 1).trans rfl
   have hcz34_2 : w25.cell? ⟨gb179, 2, none⟩ = some (.string a1_2) := (blk_cell BK179.out 2).trans rfl
   have hfz34_0 := blk_frozen BK179.out 0
   have hfz34_1 := blk_frozen BK179.out 1
   have hfz34_2 := blk_frozen BK179.out 2
   try go_wp2
   go_ret
   exact ⟨by first | rfl | (simp [errW_none, errW_some] <;> rfl) | (simp [*, errW_none, errW_some] <;> rfl), by repeat (first | (with_reducible first | exact HB.out | apply below_alloc | apply pw_below_drewN | apply below_drew1 | refine below_set ?_ GE178.out | refine below_set ?_ GE179.out) | exact HB.out)⟩
  ·rw [if_neg c20] at H
   have c20b0 : decide (t180 < t183) = false := decide_eq_false c20
   clear c20
   by_cases c35 : t180 = t183
   ·rw [if_pos c35] at H
    have c35b0 : (t180 == t183) = true := beq_iff_eq.mpr c35
    have c5b9 := c5b0
    simp only [c35b0, Bool.true_and] at c5b9
    have c35b1 : (t180 != t183) = false := bne_eq_false_iff_eq.mpr c35
    clear c35
    by_cases c36 : t181 < t184
    ·rw [if_pos c36] at H
     have c36b0 : decide (t181 < t184) = true := decide_eq_true c36
     clear c36
     obtain rfl := Option.some.inj H
     go_enter Try.func50, Try.ntmps50
     try go_wp2_with (first | ((with_reducible refine gate_dst (N := 2) rfl ?_); refine box_event ?hg (N := 2) ?hd (cs := #[.int .i64 a0_0, .int .i64 a0_1, .string a0_2]) (t := 38) ?hr ?_; (case hd => rfl); (case hg => rfl); (case hr => first | (go_simp; done) | (go_simp; rfl)); intro gb178 hg w37 hbox hb; have n0_ := Aside0.mk (below_step (by repeat (first | (with_reducible first | exact HB.out | apply below_alloc | apply pw_below_drewN | apply below_drew1) | exact HB.out)) hb); have n1_ := Aside0.mk (hbox); have n2_ := Aside0.mk ((by rw [hg]; exact (below_size (by repeat (first | (with_reducible first | exact HB.out | apply below_alloc | apply pw_below_drewN | apply below_drew1) | exact HB.out))) : w.heap.size ≤ gb178)); have n3_ := Aside0.mk ((by rw [hg]; exact (below_size (by repeat (first | (with_reducible first | exact HB.out | apply below_alloc | apply pw_below_drewN | apply below_drew1) | exact HB.out))) : w.heap.size ≤ gb178)); clear HB; have HB := n0_; have BK178 := n1_; have GW178 := n2_; have GE178 := n3_; clear n0_ n1_ n2_ n3_; clear hb hbox hg) | ((with_reducible refine gate_dst (N := 3) rfl ?_); refine box_event ?hg (N := 3) ?hd (cs := #[.int .i64 a1_0, .int .i64 a1_1, .string a1_2]) (t := 38) ?hr ?_; (case hd => rfl); (case hg => rfl); (case hr => first | (go_simp; done) | (go_simp; rfl)); intro gb179 hg w38 hbox hb; have n0_ := Aside0.mk (blk_below (g := gb178) (o := .cells #[.int .i64 a0_0, .int .i64 a0_1, .string a0_2] 38 (0, 0)) (by (with_reducible repeat (first | refine blk_drewN ?_ _ | refine blk_drew ?_ | refine blk_alloc ?_ _)); exact BK178.out) hb); have n1_ := Aside0.mk (below_step (by repeat (first | (with_reducible first | exact HB.out | apply below_alloc | apply pw_below_drewN | apply below_drew1 | refine below_set ?_ GE178.out) | exact HB.out)) hb); have n2_ := Aside0.mk (hbox); have n3_ := Aside0.mk ((by rw [hg]; exact (below_size (by repeat (first | (with_reducible first | exact HB.out | apply below_alloc | apply pw_below_drewN | apply below_drew1 | refine below_set ?_ GE178.out) | exact HB.out))) : w.heap.size ≤ gb179)); have n4_ := Aside0.mk ((by rw [hg]; exact (below_size (by repeat (first | (with_reducible first | exact HB.out | apply below_alloc | apply pw_below_drewN | apply below_drew1 | refine below_set ?_ GE178.out) | exact HB.out))) : w.heap.size ≤ gb179)); have n5_ := Aside0.mk ((by rw [hg]; exact Nat.ne_of_lt (blk_lt (g := gb178) (o := .cells #[.int .i64 a0_0, .int .i64 a0_1, .string a0_2] 38 (0, 0)) (by (with_reducible repeat (first | refine blk_drewN ?_ _ | refine blk_drew ?_ | refine blk_alloc ?_ _)); exact BK178.out)) : gb178 ≠ gb179)); have n6_ := Aside0.mk ((by rw [hg]; exact Nat.ne_of_gt (blk_lt (g := gb178) (o := .cells #[.int .i64 a0_0, .int .i64 a0_1, .string a0_2] 38 (0, 0)) (by (with_reducible repeat (first | refine blk_drewN ?_ _ | refine blk_drew ?_ | refine blk_alloc ?_ _)); exact BK178.out)) : gb179 ≠ gb178)); clear BK178; clear HB; have BK178 := n0_; have HB := n1_; have BK179 := n2_; have GW179 := n3_; have GE179 := n4_; have NB178_179 := n5_; have NB179_178 := n6_; clear n0_ n1_ n2_ n3_ n4_ n5_ n6_; clear hb hbox hg))
     have n0_ := Aside0.mk (blk_drew BK178.out)
     have n1_ := Aside0.mk (blk_drew BK179.out)
     have n2_ := Aside0.mk (below_drew1 HB.out)
     clear BK178
     clear BK179
     clear HB
     have BK178 := n0_
     have BK179 := n1_
     have HB := n2_
     clear n0_ n1_ n2_
     refine start_ (n := 6) (S := fun w' => w'.cell? ⟨gb178, 0, none⟩ = some (.int .i64 a0_0) ∧ w'.cell? ⟨gb178, 1, none⟩ = some (.int .i64 a0_1) ∧ w'.cell? ⟨gb178, 2, none⟩ = some (.string a0_2) ∧ w'.cell? ⟨gb179, 0, none⟩ = some (.int .i64 a1_0) ∧ w'.cell? ⟨gb179, 1, none⟩ = some (.int .i64 a1_1) ∧ w'.cell? ⟨gb179, 2, none⟩ = some (.string a1_2)) (ds := [4, 5]) #[false, false, false, false, false, false] (by kernel_rfl) rfl rfl ⟨(blk_cell BK178.out 0).trans rfl, (blk_cell BK178.out 1).trans rfl, (blk_cell BK178.out 2).trans rfl, (blk_cell BK179.out 0).trans rfl, (blk_cell BK179.out 1).trans rfl, (blk_cell BK179.out 2).trans rfl⟩ (fun hHeld => ?_)
     generalize w38.drew = w39 at BK178 BK179 HB hHeld ⊢
     refine ta (i := 0) (N := some 5) (bl 6 1) (by kernel_rfl) hHeld ?_
     refine ta (i := 2) (N := some 7) (bl 6 5) (by kernel_rfl) hHeld ?_
     refine one_ (i := 1) (N := some 6) (bl 6 7) rfl rfl (by kernel_rfl) (by decide) (fun K hK => ?_)
     refine goes_ Try.func39 (by kernel_rfl) rfl #[.agg #[.int .i64 a0_0, .int .i64 a0_1, .string a0_2]] (by rfl) rfl rfl (by (try simp only [List.map_toArray, List.map_cons, List.map_nil]); first | done | rfl | (simp only [List.length_drop, List.length_take]; rfl)) ?_
     with_reducible refine (erasureref01_Clean.calls a0_0 a0_1 a0_2 t180 t181 t182 _ A3.out).mono ?_
     rintro e w40 ⟨rfl, hb⟩
     refine ⟨_, rfl, ?_⟩
     have n0_ := Aside0.mk (blk_below (g := gb178) (o := .cells #[.int .i64 a0_0, .int .i64 a0_1, .string a0_2] 38 (0, 0)) (by (with_reducible repeat (first | refine blk_drewN ?_ _ | refine blk_drew ?_ | refine blk_alloc ?_ _)); exact BK178.out) hb)
     have n1_ := Aside0.mk (blk_below (g := gb179) (o := .cells #[.int .i64 a1_0, .int .i64 a1_1, .string a1_2] 38 (0, 0)) (by (with_reducible repeat (first | refine blk_drewN ?_ _ | refine blk_drew ?_ | refine blk_alloc ?_ _)); exact BK179.out) hb)
     have n2_ := Aside0.mk (below_step (by repeat (first | (with_reducible first | exact HB.out | apply below_alloc | apply pw_below_drewN | apply below_drew1 | refine below_set ?_ GE178.out | refine below_set ?_ GE179.out) | exact HB.out)) hb)
     clear BK178
     clear BK179
     clear HB
     have BK178 := n0_
     have BK179 := n1_
     have HB := n2_
     clear n0_ n1_ n2_
     (try clear hb)
     (try clear hb2)
     (try clear hk)
     (try clear hi)
     refine hK.out _ _ ⟨(blk_cell BK178.out 0).trans rfl, (blk_cell BK178.out 1).trans rfl, (blk_cell BK178.out 2).trans rfl, (blk_cell BK179.out 0).trans rfl, (blk_cell BK179.out 1).trans rfl, (blk_cell BK179.out 2).trans rfl⟩ (fun hHeld => ?_)
     clear hK K
     refine norm_ (a' := ?_) ?_ ?_
     rotate_left
     ·show Act.put _ (some 6) _ = _
      simp only [Act.put, List.setIfInBounds_toArray, List.set_cons_zero, List.set_cons_succ, i64_w, i32_w]
      rfl
     refine one_ (i := 3) (N := some 8) (bl 6 15) rfl rfl (by kernel_rfl) (by decide) (fun K hK => ?_)
     refine goes_ Try.func39 (by kernel_rfl) rfl #[.agg #[.int .i64 a1_0, .int .i64 a1_1, .string a1_2]] (by rfl) rfl rfl (by (try simp only [List.map_toArray, List.map_cons, List.map_nil]); first | done | rfl | (simp only [List.length_drop, List.length_take]; rfl)) ?_
     with_reducible refine (erasureref01_Clean.calls a1_0 a1_1 a1_2 t183 t184 t185 _ A4.out).mono ?_
     rintro e w41 ⟨rfl, hb⟩
     refine ⟨_, rfl, ?_⟩
     have n0_ := Aside0.mk (blk_below (g := gb178) (o := .cells #[.int .i64 a0_0, .int .i64 a0_1, .string a0_2] 38 (0, 0)) (by (with_reducible repeat (first | refine blk_drewN ?_ _ | refine blk_drew ?_ | refine blk_alloc ?_ _)); exact BK178.out) hb)
     have n1_ := Aside0.mk (blk_below (g := gb179) (o := .cells #[.int .i64 a1_0, .int .i64 a1_1, .string a1_2] 38 (0, 0)) (by (with_reducible repeat (first | refine blk_drewN ?_ _ | refine blk_drew ?_ | refine blk_alloc ?_ _)); exact BK179.out) hb)
     have n2_ := Aside0.mk (below_step (by repeat (first | (with_reducible first | exact HB.out | apply below_alloc | apply pw_below_drewN | apply below_drew1 | refine below_set ?_ GE178.out | refine below_set ?_ GE179.out) | exact HB.out)) hb)
     clear BK178
     clear BK179
     clear HB
     have BK178 := n0_
     have BK179 := n1_
     have HB := n2_
     clear n0_ n1_ n2_
     (try clear hb)
     (try clear hb2)
     (try clear hk)
     (try clear hi)
     refine hK.out _ _ ⟨(blk_cell BK178.out 0).trans rfl, (blk_cell BK178.out 1).trans rfl, (blk_cell BK178.out 2).trans rfl, (blk_cell BK179.out 0).trans rfl, (blk_cell BK179.out 1).trans rfl, (blk_cell BK179.out 2).trans rfl⟩ (fun hHeld => ?_)
     clear hK K
     refine norm_ (a' := ?_) ?_ ?_
     rotate_left
     ·show Act.put _ (some 8) _ = _
      simp only [Act.put, List.setIfInBounds_toArray, List.set_cons_zero, List.set_cons_succ, i64_w, i32_w]
      rfl
     refine last_ (i := 4) (N := none) (bl 6 31) rfl rfl (by kernel_rfl) (by decide) (fun K hK => ?_)
     have hs42 : w41.cell? ⟨gb178, 0, none⟩ = some (.int .i64 a0_0) := (blk_cell BK178.out 0).trans rfl
     have hfs42 := blk_frozen BK178.out 0
     have hns42_1 := NB179_178.out
     have hms42_1 := NB178_179.out
     have hs43 : w41.cell? ⟨gb178, 1, none⟩ = some (.int .i64 a0_1) := (blk_cell BK178.out 1).trans rfl
     have hfs43 := blk_frozen BK178.out 1
     have hns43_1 := NB179_178.out
     have hms43_1 := NB178_179.out
     have hs44 : w41.cell? ⟨gb178, 2, none⟩ = some (.string a0_2) := (blk_cell BK178.out 2).trans rfl
     have hfs44 := blk_frozen BK178.out 2
     have hns44_1 := NB179_178.out
     have hms44_1 := NB178_179.out
     refine skip_ (w1 := ?_) (by rfl) rfl ?_ ?_
     rotate_left
     ·go_simp
      rfl
     refine hK.out _ _ ?_
     clear hK K
     refine last_ (i := 5) (N := none) (bl 6 63) rfl rfl (by kernel_rfl) (by decide) (fun K hK => ?_)
     have hs45 : w41.cell? ⟨gb179, 0, none⟩ = some (.int .i64 a1_0) := (blk_cell BK179.out 0).trans rfl
     have hfs45 := blk_frozen BK179.out 0
     have hns45_0 := NB178_179.out
     have hms45_0 := NB179_178.out
     have hs46 : w41.cell? ⟨gb179, 1, none⟩ = some (.int .i64 a1_1) := (blk_cell BK179.out 1).trans rfl
     have hfs46 := blk_frozen BK179.out 1
     have hns46_0 := NB178_179.out
     have hms46_0 := NB179_178.out
     have hs47 : w41.cell? ⟨gb179, 2, none⟩ = some (.string a1_2) := (blk_cell BK179.out 2).trans rfl
     have hfs47 := blk_frozen BK179.out 2
     have hns47_0 := NB178_179.out
     have hms47_0 := NB179_178.out
     refine skip_ (w1 := ?_) (by rfl) rfl ?_ ?_
     rotate_left
     ·go_simp
      rfl
     refine hK.out _ _ ?_
     clear hK K
     refine done_ (by kernel_rfl) ?_
     have hnb48 := NB178_179.out
     have hnc48 := NB179_178.out
     have hcz49_0 : w41.cell? ⟨gb178, 0, none⟩ = some (.int .i64 a0_0) := (blk_cell BK178.out 0).trans rfl
     have hcz49_1 : w41.cell? ⟨gb178, 1, none⟩ = some (.int .i64 a0_1) := (blk_cell BK178.out 1).trans rfl
     have hcz49_2 : w41.cell? ⟨gb178, 2, none⟩ = some (.string a0_2) := (blk_cell BK178.out 2).trans rfl
     have hfz49_0 := blk_frozen BK178.out 0
     have hfz49_1 := blk_frozen BK178.out 1
     have hfz49_2 := blk_frozen BK178.out 2
     have hcz50_0 : w41.cell? ⟨gb179, 0, none⟩ = some (.int .i64 a1_0) := (blk_cell BK179.out 0).trans rfl
     have hcz50_1 : w41.cell? ⟨gb179, 1, none⟩ = some (.int .i64 a1_1) := (blk_cell BK179.out 1).trans rfl
     have hcz50_2 : w41.cell? ⟨gb179, 2, none⟩ = some (.string a1_2) := (blk_cell BK179.out 2).trans rfl
     have hfz50_0 := blk_frozen BK179.out 0
     have hfz50_1 := blk_frozen BK179.out 1
     have hfz50_2 := blk_frozen BK179.out 2
     try go_wp2
     go_ret
     exact ⟨by first | rfl | (simp [errW_none, errW_some] <;> rfl) | (simp [*, errW_none, errW_some] <;> rfl), by repeat (first | (with_reducible first | exact HB.out | apply below_alloc | apply pw_below_drewN | apply below_drew1 | refine below_set ?_ GE178.out | refine below_set ?_ GE179.out) | exact HB.out)⟩
    ·rw [if_neg c36] at H
     have c36b0 : decide (t181 < t184) = false := decide_eq_false c36
     clear c36
     by_cases c51 : (Op.bytesLess t182.toList t185.toList) = true
     ·rw [if_pos c51] at H
      have c51b0 : (Op.bytesLess t182.toList t185.toList) = true := c51
      clear c51
      obtain rfl := Option.some.inj H
      go_enter Try.func50, Try.ntmps50
      try go_wp2_with (first | ((with_reducible refine gate_dst (N := 2) rfl ?_); refine box_event ?hg (N := 2) ?hd (cs := #[.int .i64 a0_0, .int .i64 a0_1, .string a0_2]) (t := 38) ?hr ?_; (case hd => rfl); (case hg => rfl); (case hr => first | (go_simp; done) | (go_simp; rfl)); intro gb178 hg w52 hbox hb; have n0_ := Aside0.mk (below_step (by repeat (first | (with_reducible first | exact HB.out | apply below_alloc | apply pw_below_drewN | apply below_drew1) | exact HB.out)) hb); have n1_ := Aside0.mk (hbox); have n2_ := Aside0.mk ((by rw [hg]; exact (below_size (by repeat (first | (with_reducible first | exact HB.out | apply below_alloc | apply pw_below_drewN | apply below_drew1) | exact HB.out))) : w.heap.size ≤ gb178)); have n3_ := Aside0.mk ((by rw [hg]; exact (below_size (by repeat (first | (with_reducible first | exact HB.out | apply below_alloc | apply pw_below_drewN | apply below_drew1) | exact HB.out))) : w.heap.size ≤ gb178)); clear HB; have HB := n0_; have BK178 := n1_; have GW178 := n2_; have GE178 := n3_; clear n0_ n1_ n2_ n3_; clear hb hbox hg) | ((with_reducible refine gate_dst (N := 3) rfl ?_); refine box_event ?hg (N := 3) ?hd (cs := #[.int .i64 a1_0, .int .i64 a1_1, .string a1_2]) (t := 38) ?hr ?_; (case hd => rfl); (case hg => rfl); (case hr => first | (go_simp; done) | (go_simp; rfl)); intro gb179 hg w53 hbox hb; have n0_ := Aside0.mk (blk_below (g := gb178) (o := .cells #[.int .i64 a0_0, .int .i64 a0_1, .string a0_2] 38 (0, 0)) (by (with_reducible repeat (first | refine blk_drewN ?_ _ | refine blk_drew ?_ | refine blk_alloc ?_ _)); exact BK178.out) hb); have n1_ := Aside0.mk (below_step (by repeat (first | (with_reducible first | exact HB.out | apply below_alloc | apply pw_below_drewN | apply below_drew1 | refine below_set ?_ GE178.out) | exact HB.out)) hb); have n2_ := Aside0.mk (hbox); have n3_ := Aside0.mk ((by rw [hg]; exact (below_size (by repeat (first | (with_reducible first | exact HB.out | apply below_alloc | apply pw_below_drewN | apply below_drew1 | refine below_set ?_ GE178.out) | exact HB.out))) : w.heap.size ≤ gb179)); have n4_ := Aside0.mk ((by rw [hg]; exact (below_size (by repeat (first | (with_reducible first | exact HB.out | apply below_alloc | apply pw_below_drewN | apply below_drew1 | refine below_set ?_ GE178.out) | exact HB.out))) : w.heap.size ≤ gb179)); have n5_ := Aside0.mk ((by rw [hg]; exact Nat.ne_of_lt (blk_lt (g := gb178) (o := .cells #[.int .i64 a0_0, .int .i64 a0_1, .string a0_2] 38 (0, 0)) (by (with_reducible repeat (first | refine blk_drewN ?_ _ | refine blk_drew ?_ | refine blk_alloc ?_ _)); exact BK178.out)) : gb178 ≠ gb179)); have n6_ := Aside0.mk ((by rw [hg]; exact Nat.ne_of_gt (blk_lt (g := gb178) (o := .cells #[.int .i64 a0_0, .int .i64 a0_1, .string a0_2] 38 (0, 0)) (by (with_reducible repeat (first | refine blk_drewN ?_ _ | refine blk_drew ?_ | refine blk_alloc ?_ _)); exact BK178.out)) : gb179 ≠ gb178)); clear BK178; clear HB; have BK178 := n0_; have HB := n1_; have BK179 := n2_; have GW179 := n3_; have GE179 := n4_; have NB178_179 := n5_; have NB179_178 := n6_; clear n0_ n1_ n2_ n3_ n4_ n5_ n6_; clear hb hbox hg))
      have n0_ := Aside0.mk (blk_drew BK178.out)
      have n1_ := Aside0.mk (blk_drew BK179.out)
      have n2_ := Aside0.mk (below_drew1 HB.out)
      clear BK178
      clear BK179
      clear HB
      have BK178 := n0_
      have BK179 := n1_
      have HB := n2_
      clear n0_ n1_ n2_
      refine start_ (n := 6) (S := fun w' => w'.cell? ⟨gb178, 0, none⟩ = some (.int .i64 a0_0) ∧ w'.cell? ⟨gb178, 1, none⟩ = some (.int .i64 a0_1) ∧ w'.cell? ⟨gb178, 2, none⟩ = some (.string a0_2) ∧ w'.cell? ⟨gb179, 0, none⟩ = some (.int .i64 a1_0) ∧ w'.cell? ⟨gb179, 1, none⟩ = some (.int .i64 a1_1) ∧ w'.cell? ⟨gb179, 2, none⟩ = some (.string a1_2)) (ds := [4, 5]) #[false, false, false, false, false, false] (by kernel_rfl) rfl rfl ⟨(blk_cell BK178.out 0).trans rfl, (blk_cell BK178.out 1).trans rfl, (blk_cell BK178.out 2).trans rfl, (blk_cell BK179.out 0).trans rfl, (blk_cell BK179.out 1).trans rfl, (blk_cell BK179.out 2).trans rfl⟩ (fun hHeld => ?_)
      generalize w53.drew = w54 at BK178 BK179 HB hHeld ⊢
      refine ta (i := 0) (N := some 5) (bl 6 1) (by kernel_rfl) hHeld ?_
      refine ta (i := 2) (N := some 7) (bl 6 5) (by kernel_rfl) hHeld ?_
      refine one_ (i := 1) (N := some 6) (bl 6 7) rfl rfl (by kernel_rfl) (by decide) (fun K hK => ?_)
      refine goes_ Try.func39 (by kernel_rfl) rfl #[.agg #[.int .i64 a0_0, .int .i64 a0_1, .string a0_2]] (by rfl) rfl rfl (by (try simp only [List.map_toArray, List.map_cons, List.map_nil]); first | done | rfl | (simp only [List.length_drop, List.length_take]; rfl)) ?_
      with_reducible refine (erasureref01_Clean.calls a0_0 a0_1 a0_2 t180 t181 t182 _ A3.out).mono ?_
      rintro e w55 ⟨rfl, hb⟩
      refine ⟨_, rfl, ?_⟩
      have n0_ := Aside0.mk (blk_below (g := gb178) (o := .cells #[.int .i64 a0_0, .int .i64 a0_1, .string a0_2] 38 (0, 0)) (by (with_reducible repeat (first | refine blk_drewN ?_ _ | refine blk_drew ?_ | refine blk_alloc ?_ _)); exact BK178.out) hb)
      have n1_ := Aside0.mk (blk_below (g := gb179) (o := .cells #[.int .i64 a1_0, .int .i64 a1_1, .string a1_2] 38 (0, 0)) (by (with_reducible repeat (first | refine blk_drewN ?_ _ | refine blk_drew ?_ | refine blk_alloc ?_ _)); exact BK179.out) hb)
      have n2_ := Aside0.mk (below_step (by repeat (first | (with_reducible first | exact HB.out | apply below_alloc | apply pw_below_drewN | apply below_drew1 | refine below_set ?_ GE178.out | refine below_set ?_ GE179.out) | exact HB.out)) hb)
      clear BK178
      clear BK179
      clear HB
      have BK178 := n0_
      have BK179 := n1_
      have HB := n2_
      clear n0_ n1_ n2_
      (try clear hb)
      (try clear hb2)
      (try clear hk)
      (try clear hi)
      refine hK.out _ _ ⟨(blk_cell BK178.out 0).trans rfl, (blk_cell BK178.out 1).trans rfl, (blk_cell BK178.out 2).trans rfl, (blk_cell BK179.out 0).trans rfl, (blk_cell BK179.out 1).trans rfl, (blk_cell BK179.out 2).trans rfl⟩ (fun hHeld => ?_)
      clear hK K
      refine norm_ (a' := ?_) ?_ ?_
      rotate_left
      ·show Act.put _ (some 6) _ = _
       simp only [Act.put, List.setIfInBounds_toArray, List.set_cons_zero, List.set_cons_succ, i64_w, i32_w]
       rfl
      refine one_ (i := 3) (N := some 8) (bl 6 15) rfl rfl (by kernel_rfl) (by decide) (fun K hK => ?_)
      refine goes_ Try.func39 (by kernel_rfl) rfl #[.agg #[.int .i64 a1_0, .int .i64 a1_1, .string a1_2]] (by rfl) rfl rfl (by (try simp only [List.map_toArray, List.map_cons, List.map_nil]); first | done | rfl | (simp only [List.length_drop, List.length_take]; rfl)) ?_
      with_reducible refine (erasureref01_Clean.calls a1_0 a1_1 a1_2 t183 t184 t185 _ A4.out).mono ?_
      rintro e w56 ⟨rfl, hb⟩
      refine ⟨_, rfl, ?_⟩
      have n0_ := Aside0.mk (blk_below (g := gb178) (o := .cells #[.int .i64 a0_0, .int .i64 a0_1, .string a0_2] 38 (0, 0)) (by (with_reducible repeat (first | refine blk_drewN ?_ _ | refine blk_drew ?_ | refine blk_alloc ?_ _)); exact BK178.out) hb)
      have n1_ := Aside0.mk (blk_below (g := gb179) (o := .cells #[.int .i64 a1_0, .int .i64 a1_1, .string a1_2] 38 (0, 0)) (by (with_reducible repeat (first | refine blk_drewN ?_ _ | refine blk_drew ?_ | refine blk_alloc ?_ _)); exact BK179.out) hb)
      have n2_ := Aside0.mk (below_step (by repeat (first | (with_reducible first | exact HB.out | apply below_alloc | apply pw_below_drewN | apply below_drew1 | refine below_set ?_ GE178.out | refine below_set ?_ GE179.out) | exact HB.out)) hb)
      clear BK178
      clear BK179
      clear HB
      have BK178 := n0_
      have BK179 := n1_
      have HB := n2_
      clear n0_ n1_ n2_
      (try clear hb)
      (try clear hb2)
      (try clear hk)
      (try clear hi)
      refine hK.out _ _ ⟨(blk_cell BK178.out 0).trans rfl, (blk_cell BK178.out 1).trans rfl, (blk_cell BK178.out 2).trans rfl, (blk_cell BK179.out 0).trans rfl, (blk_cell BK179.out 1).trans rfl, (blk_cell BK179.out 2).trans rfl⟩ (fun hHeld => ?_)
      clear hK K
      refine norm_ (a' := ?_) ?_ ?_
      rotate_left
      ·show Act.put _ (some 8) _ = _
       simp only [Act.put, List.setIfInBounds_toArray, List.set_cons_zero, List.set_cons_succ, i64_w, i32_w]
       rfl
      refine last_ (i := 4) (N := none) (bl 6 31) rfl rfl (by kernel_rfl) (by decide) (fun K hK => ?_)
      have hs57 : w56.cell? ⟨gb178, 0, none⟩ = some (.int .i64 a0_0) := (blk_cell BK178.out 0).trans rfl
      have hfs57 := blk_frozen BK178.out 0
      have hns57_1 := NB179_178.out
      have hms57_1 := NB178_179.out
      have hs58 : w56.cell? ⟨gb178, 1, none⟩ = some (.int .i64 a0_1) := (blk_cell BK178.out 1).trans rfl
      have hfs58 := blk_frozen BK178.out 1
      have hns58_1 := NB179_178.out
      have hms58_1 := NB178_179.out
      have hs59 : w56.cell? ⟨gb178, 2, none⟩ = some (.string a0_2) := (blk_cell BK178.out 2).trans rfl
      have hfs59 := blk_frozen BK178.out 2
      have hns59_1 := NB179_178.out
      have hms59_1 := NB178_179.out
      refine skip_ (w1 := ?_) (by rfl) rfl ?_ ?_
      rotate_left
      ·go_simp
       rfl
      refine hK.out _ _ ?_
      clear hK K
      refine last_ (i := 5) (N := none) (bl 6 63) rfl rfl (by kernel_rfl) (by decide) (fun K hK => ?_)
      have hs60 : w56.cell? ⟨gb179, 0, none⟩ = some (.int .i64 a1_0) := (blk_cell BK179.out 0).trans rfl
      have hfs60 := blk_frozen BK179.out 0
      have hns60_0 := NB178_179.out
      have hms60_0 := NB179_178.out
      have hs61 : w56.cell? ⟨gb179, 1, none⟩ = some (.int .i64 a1_1) := (blk_cell BK179.out 1).trans rfl
      have hfs61 := blk_frozen BK179.out 1
      have hns61_0 := NB178_179.out
      have hms61_0 := NB179_178.out
      have hs62 : w56.cell? ⟨gb179, 2, none⟩ = some (.string a1_2) := (blk_cell BK179.out 2).trans rfl
      have hfs62 := blk_frozen BK179.out 2
      have hns62_0 := NB178_179.out
      have hms62_0 := NB179_178.out
      refine skip_ (w1 := ?_) (by rfl) rfl ?_ ?_
      rotate_left
      ·go_simp
       rfl
      refine hK.out _ _ ?_
      clear hK K
      refine done_ (by kernel_rfl) ?_
      have hnb63 := NB178_179.out
      have hnc63 := NB179_178.out
      have hcz64_0 : w56.cell? ⟨gb178, 0, none⟩ = some (.int .i64 a0_0) := (blk_cell BK178.out 0).trans rfl
      have hcz64_1 : w56.cell? ⟨gb178, 1, none⟩ = some (.int .i64 a0_1) := (blk_cell BK178.out 1).trans rfl
      have hcz64_2 : w56.cell? ⟨gb178, 2, none⟩ = some (.string a0_2) := (blk_cell BK178.out 2).trans rfl
      have hfz64_0 := blk_frozen BK178.out 0
      have hfz64_1 := blk_frozen BK178.out 1
      have hfz64_2 := blk_frozen BK178.out 2
      have hcz65_0 : w56.cell? ⟨gb179, 0, none⟩ = some (.int .i64 a1_0) := (blk_cell BK179.out 0).trans rfl
      have hcz65_1 : w56.cell? ⟨gb179, 1, none⟩ = some (.int .i64 a1_1) := (blk_cell BK179.out 1).trans rfl
      have hcz65_2 : w56.cell? ⟨gb179, 2, none⟩ = some (.string a1_2) := (blk_cell BK179.out 2).trans rfl
      have hfz65_0 := blk_frozen BK179.out 0
      have hfz65_1 := blk_frozen BK179.out 1
      have hfz65_2 := blk_frozen BK179.out 2
      try go_wp2
      go_ret
      exact ⟨by first | rfl | (simp [errW_none, errW_some] <;> rfl) | (simp [*, errW_none, errW_some] <;> rfl), by repeat (first | (with_reducible first | exact HB.out | apply below_alloc | apply pw_below_drewN | apply below_drew1 | refine below_set ?_ GE178.out | refine below_set ?_ GE179.out) | exact HB.out)⟩
     ·rw [if_neg c51] at H
      have c51b0 : (Op.bytesLess t182.toList t185.toList) = false := by simpa using c51
      clear c51
      obtain rfl := Option.some.inj H
      go_enter Try.func50, Try.ntmps50
      try go_wp2_with (first | ((with_reducible refine gate_dst (N := 2) rfl ?_); refine box_event ?hg (N := 2) ?hd (cs := #[.int .i64 a0_0, .int .i64 a0_1, .string a0_2]) (t := 38) ?hr ?_; (case hd => rfl); (case hg => rfl); (case hr => first | (go_simp; done) | (go_simp; rfl)); intro gb178 hg w66 hbox hb; have n0_ := Aside0.mk (below_step (by repeat (first | (with_reducible first | exact HB.out | apply below_alloc | apply pw_below_drewN | apply below_drew1) | exact HB.out)) hb); have n1_ := Aside0.mk (hbox); have n2_ := Aside0.mk ((by rw [hg]; exact (below_size (by repeat (first | (with_reducible first | exact HB.out | apply below_alloc | apply pw_below_drewN | apply below_drew1) | exact HB.out))) : w.heap.size ≤ gb178)); have n3_ := Aside0.mk ((by rw [hg]; exact (below_size (by repeat (first | (with_reducible first | exact HB.out | apply below_alloc | apply pw_below_drewN | apply below_drew1) | exact HB.out))) : w.heap.size ≤ gb178)); clear HB; have HB := n0_; have BK178 := n1_; have GW178 := n2_; have GE178 := n3_; clear n0_ n1_ n2_ n3_; clear hb hbox hg) | ((with_reducible refine gate_dst (N := 3) rfl ?_); refine box_event ?hg (N := 3) ?hd (cs := #[.int .i64 a1_0, .int .i64 a1_1, .string a1_2]) (t := 38) ?hr ?_; (case hd => rfl); (case hg => rfl); (case hr => first | (go_simp; done) | (go_simp; rfl)); intro gb179 hg w67 hbox hb; have n0_ := Aside0.mk (blk_below (g := gb178) (o := .cells #[.int .i64 a0_0, .int .i64 a0_1, .string a0_2] 38 (0, 0)) (by (with_reducible repeat (first | refine blk_drewN ?_ _ | refine blk_drew ?_ | refine blk_alloc ?_ _)); exact BK178.out) hb); have n1_ := Aside0.mk (below_step (by repeat (first | (with_reducible first | exact HB.out | apply below_alloc | apply pw_below_drewN | apply below_drew1 | refine below_set ?_ GE178.out) | exact HB.out)) hb); have n2_ := Aside0.mk (hbox); have n3_ := Aside0.mk ((by rw [hg]; exact (below_size (by repeat (first | (with_reducible first | exact HB.out | apply below_alloc | apply pw_below_drewN | apply below_drew1 | refine below_set ?_ GE178.out) | exact HB.out))) : w.heap.size ≤ gb179)); have n4_ := Aside0.mk ((by rw [hg]; exact (below_size (by repeat (first | (with_reducible first | exact HB.out | apply below_alloc | apply pw_below_drewN | apply below_drew1 | refine below_set ?_ GE178.out) | exact HB.out))) : w.heap.size ≤ gb179)); have n5_ := Aside0.mk ((by rw [hg]; exact Nat.ne_of_lt (blk_lt (g := gb178) (o := .cells #[.int .i64 a0_0, .int .i64 a0_1, .string a0_2] 38 (0, 0)) (by (with_reducible repeat (first | refine blk_drewN ?_ _ | refine blk_drew ?_ | refine blk_alloc ?_ _)); exact BK178.out)) : gb178 ≠ gb179)); have n6_ := Aside0.mk ((by rw [hg]; exact Nat.ne_of_gt (blk_lt (g := gb178) (o := .cells #[.int .i64 a0_0, .int .i64 a0_1, .string a0_2] 38 (0, 0)) (by (with_reducible repeat (first | refine blk_drewN ?_ _ | refine blk_drew ?_ | refine blk_alloc ?_ _)); exact BK178.out)) : gb179 ≠ gb178)); clear BK178; clear HB; have BK178 := n0_; have HB := n1_; have BK179 := n2_; have GW179 := n3_; have GE179 := n4_; have NB178_179 := n5_; have NB179_178 := n6_; clear n0_ n1_ n2_ n3_ n4_ n5_ n6_; clear hb hbox hg))
      have n0_ := Aside0.mk (blk_drew BK178.out)
      have n1_ := Aside0.mk (blk_drew BK179.out)
      have n2_ := Aside0.mk (below_drew1 HB.out)
      clear BK178
      clear BK179
      clear HB
      have BK178 := n0_
      have BK179 := n1_
      have HB := n2_
      clear n0_ n1_ n2_
      refine start_ (n := 6) (S := fun w' => w'.cell? ⟨gb178, 0, none⟩ = some (.int .i64 a0_0) ∧ w'.cell? ⟨gb178, 1, none⟩ = some (.int .i64 a0_1) ∧ w'.cell? ⟨gb178, 2, none⟩ = some (.string a0_2) ∧ w'.cell? ⟨gb179, 0, none⟩ = some (.int .i64 a1_0) ∧ w'.cell? ⟨gb179, 1, none⟩ = some (.int .i64 a1_1) ∧ w'.cell? ⟨gb179, 2, none⟩ = some (.string a1_2)) (ds := [4, 5]) #[false, false, false, false, false, false] (by kernel_rfl) rfl rfl ⟨(blk_cell BK178.out 0).trans rfl, (blk_cell BK178.out 1).trans rfl, (blk_cell BK178.out 2).trans rfl, (blk_cell BK179.out 0).trans rfl, (blk_cell BK179.out 1).trans rfl, (blk_cell BK179.out 2).trans rfl⟩ (fun hHeld => ?_)
      generalize w67.drew = w68 at BK178 BK179 HB hHeld ⊢
      refine ta (i := 0) (N := some 5) (bl 6 1) (by kernel_rfl) hHeld ?_
      refine ta (i := 2) (N := some 7) (bl 6 5) (by kernel_rfl) hHeld ?_
      refine one_ (i := 1) (N := some 6) (bl 6 7) rfl rfl (by kernel_rfl) (by decide) (fun K hK => ?_)
      refine goes_ Try.func39 (by kernel_rfl) rfl #[.agg #[.int .i64 a0_0, .int .i64 a0_1, .string a0_2]] (by rfl) rfl rfl (by (try simp only [List.map_toArray, List.map_cons, List.map_nil]); first | done | rfl | (simp only [List.length_drop, List.length_take]; rfl)) ?_
      with_reducible refine (erasureref01_Clean.calls a0_0 a0_1 a0_2 t180 t181 t182 _ A3.out).mono ?_
      rintro e w69 ⟨rfl, hb⟩
      refine ⟨_, rfl, ?_⟩
      have n0_ := Aside0.mk (blk_below (g := gb178) (o := .cells #[.int .i64 a0_0, .int .i64 a0_1, .string a0_2] 38 (0, 0)) (by (with_reducible repeat (first | refine blk_drewN ?_ _ | refine blk_drew ?_ | refine blk_alloc ?_ _)); exact BK178.out) hb)
      have n1_ := Aside0.mk (blk_below (g := gb179) (o := .cells #[.int .i64 a1_0, .int .i64 a1_1, .string a1_2] 38 (0, 0)) (by (with_reducible repeat (first | refine blk_drewN ?_ _ | refine blk_drew ?_ | refine blk_alloc ?_ _)); exact BK179.out) hb)
      have n2_ := Aside0.mk (below_step (by repeat (first | (with_reducible first | exact HB.out | apply below_alloc | apply pw_below_drewN | apply below_drew1 | refine below_set ?_ GE178.out | refine below_set ?_ GE179.out) | exact HB.out)) hb)
      clear BK178
      clear BK179
      clear HB
      have BK178 := n0_
      have BK179 := n1_
      have HB := n2_
      clear n0_ n1_ n2_
      (try clear hb)
      (try clear hb2)
      (try clear hk)
      (try clear hi)
      refine hK.out _ _ ⟨(blk_cell BK178.out 0).trans rfl, (blk_cell BK178.out 1).trans rfl, (blk_cell BK178.out 2).trans rfl, (blk_cell BK179.out 0).trans rfl, (blk_cell BK179.out 1).trans rfl, (blk_cell BK179.out 2).trans rfl⟩ (fun hHeld => ?_)
      clear hK K
      refine norm_ (a' := ?_) ?_ ?_
      rotate_left
      ·show Act.put _ (some 6) _ = _
       simp only [Act.put, List.setIfInBounds_toArray, List.set_cons_zero, List.set_cons_succ, i64_w, i32_w]
       rfl
      refine one_ (i := 3) (N := some 8) (bl 6 15) rfl rfl (by kernel_rfl) (by decide) (fun K hK => ?_)
      refine goes_ Try.func39 (by kernel_rfl) rfl #[.agg #[.int .i64 a1_0, .int .i64 a1_1, .string a1_2]] (by rfl) rfl rfl (by (try simp only [List.map_toArray, List.map_cons, List.map_nil]); first | done | rfl | (simp only [List.length_drop, List.length_take]; rfl)) ?_
      with_reducible refine (erasureref01_Clean.calls a1_0 a1_1 a1_2 t183 t184 t185 _ A4.out).mono ?_
      rintro e w70 ⟨rfl, hb⟩
      refine ⟨_, rfl, ?_⟩
      have n0_ := Aside0.mk (blk_below (g := gb178) (o := .cells #[.int .i64 a0_0, .int .i64 a0_1, .string a0_2] 38 (0, 0)) (by (with_reducible repeat (first | refine blk_drewN ?_ _ | refine blk_drew ?_ | refine blk_alloc ?_ _)); exact BK178.out) hb)
      have n1_ := Aside0.mk (blk_below (g := gb179) (o := .cells #[.int .i64 a1_0, .int .i64 a1_1, .string a1_2] 38 (0, 0)) (by (with_reducible repeat (first | refine blk_drewN ?_ _ | refine blk_drew ?_ | refine blk_alloc ?_ _)); exact BK179.out) hb)
      have n2_ := Aside0.mk (below_step (by repeat (first | (with_reducible first | exact HB.out | apply below_alloc | apply pw_below_drewN | apply below_drew1 | refine below_set ?_ GE178.out | refine below_set ?_ GE179.out) | exact HB.out)) hb)
      clear BK178
      clear BK179
      clear HB
      have BK178 := n0_
      have BK179 := n1_
      have HB := n2_
      clear n0_ n1_ n2_
      (try clear hb)
      (try clear hb2)
      (try clear hk)
      (try clear hi)
      refine hK.out _ _ ⟨(blk_cell BK178.out 0).trans rfl, (blk_cell BK178.out 1).trans rfl, (blk_cell BK178.out 2).trans rfl, (blk_cell BK179.out 0).trans rfl, (blk_cell BK179.out 1).trans rfl, (blk_cell BK179.out 2).trans rfl⟩ (fun hHeld => ?_)
      clear hK K
      refine norm_ (a' := ?_) ?_ ?_
      rotate_left
      ·show Act.put _ (some 8) _ = _
       simp only [Act.put, List.setIfInBounds_toArray, List.set_cons_zero, List.set_cons_succ, i64_w, i32_w]
       rfl
      refine last_ (i := 4) (N := none) (bl 6 31) rfl rfl (by kernel_rfl) (by decide) (fun K hK => ?_)
      have hs71 : w70.cell? ⟨gb178, 0, none⟩ = some (.int .i64 a0_0) := (blk_cell BK178.out 0).trans rfl
      have hfs71 := blk_frozen BK178.out 0
      have hns71_1 := NB179_178.out
      have hms71_1 := NB178_179.out
      have hs72 : w70.cell? ⟨gb178, 1, none⟩ = some (.int .i64 a0_1) := (blk_cell BK178.out 1).trans rfl
      have hfs72 := blk_frozen BK178.out 1
      have hns72_1 := NB179_178.out
      have hms72_1 := NB178_179.out
      have hs73 : w70.cell? ⟨gb178, 2, none⟩ = some (.string a0_2) := (blk_cell BK178.out 2).trans rfl
      have hfs73 := blk_frozen BK178.out 2
      have hns73_1 := NB179_178.out
      have hms73_1 := NB178_179.out
      refine skip_ (w1 := ?_) (by rfl) rfl ?_ ?_
      rotate_left
      ·go_simp
       rfl
      refine hK.out _ _ ?_
      clear hK K
      refine last_ (i := 5) (N := none) (bl 6 63) rfl rfl (by kernel_rfl) (by decide) (fun K hK => ?_)
      have hs74 : w70.cell? ⟨gb179, 0, none⟩ = some (.int .i64 a1_0) := (blk_cell BK179.out 0).trans rfl
      have hfs74 := blk_frozen BK179.out 0
      have hns74_0 := NB178_179.out
      have hms74_0 := NB179_178.out
      have hs75 : w70.cell? ⟨gb179, 1, none⟩ = some (.int .i64 a1_1) := (blk_cell BK179.out 1).trans rfl
      have hfs75 := blk_frozen BK179.out 1
      have hns75_0 := NB178_179.out
      have hms75_0 := NB179_178.out
      have hs76 : w70.cell? ⟨gb179, 2, none⟩ = some (.string a1_2) := (blk_cell BK179.out 2).trans rfl
      have hfs76 := blk_frozen BK179.out 2
      have hns76_0 := NB178_179.out
      have hms76_0 := NB179_178.out
      refine skip_ (w1 := ?_) (by rfl) rfl ?_ ?_
      rotate_left
      ·go_simp
       rfl
      refine hK.out _ _ ?_
      clear hK K
      refine done_ (by kernel_rfl) ?_
      have hnb77 := NB178_179.out
      have hnc77 := NB179_178.out
      have hcz78_0 : w70.cell? ⟨gb178, 0, none⟩ = some (.int .i64 a0_0) := (blk_cell BK178.out 0).trans rfl
      have hcz78_1 : w70.cell? ⟨gb178, 1, none⟩ = some (.int .i64 a0_1) := (blk_cell BK178.out 1).trans rfl
      have hcz78_2 : w70.cell? ⟨gb178, 2, none⟩ = some (.string a0_2) := (blk_cell BK178.out 2).trans rfl
      have hfz78_0 := blk_frozen BK178.out 0
      have hfz78_1 := blk_frozen BK178.out 1
      have hfz78_2 := blk_frozen BK178.out 2
      have hcz79_0 : w70.cell? ⟨gb179, 0, none⟩ = some (.int .i64 a1_0) := (blk_cell BK179.out 0).trans rfl
      have hcz79_1 : w70.cell? ⟨gb179, 1, none⟩ = some (.int .i64 a1_1) := (blk_cell BK179.out 1).trans rfl
      have hcz79_2 : w70.cell? ⟨gb179, 2, none⟩ = some (.string a1_2) := (blk_cell BK179.out 2).trans rfl
      have hfz79_0 := blk_frozen BK179.out 0
      have hfz79_1 := blk_frozen BK179.out 1
      have hfz79_2 := blk_frozen BK179.out 2
      try go_wp2
      go_ret
      exact ⟨by first | rfl | (simp [errW_none, errW_some] <;> rfl) | (simp [*, errW_none, errW_some] <;> rfl), by repeat (first | (with_reducible first | exact HB.out | apply below_alloc | apply pw_below_drewN | apply below_drew1 | refine below_set ?_ GE178.out | refine below_set ?_ GE179.out) | exact HB.out)⟩
   ·rw [if_neg c35] at H
    have c35b0 : (t180 == t183) = false := beq_eq_false_iff_ne.mpr c35
    have c35b1 : (t180 != t183) = true := bne_iff_ne.mpr c35
    obtain rfl := Option.some.inj H
    go_enter Try.func50, Try.ntmps50
    try go_wp2_with (first | ((with_reducible refine gate_dst (N := 2) rfl ?_); refine box_event ?hg (N := 2) ?hd (cs := #[.int .i64 a0_0, .int .i64 a0_1, .string a0_2]) (t := 38) ?hr ?_; (case hd => rfl); (case hg => rfl); (case hr => first | (go_simp; done) | (go_simp; rfl)); intro gb178 hg w80 hbox hb; have n0_ := Aside0.mk (below_step (by repeat (first | (with_reducible first | exact HB.out | apply below_alloc | apply pw_below_drewN | apply below_drew1) | exact HB.out)) hb); have n1_ := Aside0.mk (hbox); have n2_ := Aside0.mk ((by rw [hg]; exact (below_size (by repeat (first | (with_reducible first | exact HB.out | apply below_alloc | apply pw_below_drewN | apply below_drew1) | exact HB.out))) : w.heap.size ≤ gb178)); have n3_ := Aside0.mk ((by rw [hg]; exact (below_size (by repeat (first | (with_reducible first | exact HB.out | apply below_alloc | apply pw_below_drewN | apply below_drew1) | exact HB.out))) : w.heap.size ≤ gb178)); clear HB; have HB := n0_; have BK178 := n1_; have GW178 := n2_; have GE178 := n3_; clear n0_ n1_ n2_ n3_; clear hb hbox hg) | ((with_reducible refine gate_dst (N := 3) rfl ?_); refine box_event ?hg (N := 3) ?hd (cs := #[.int .i64 a1_0, .int .i64 a1_1, .string a1_2]) (t := 38) ?hr ?_; (case hd => rfl); (case hg => rfl); (case hr => first | (go_simp; done) | (go_simp; rfl)); intro gb179 hg w81 hbox hb; have n0_ := Aside0.mk (blk_below (g := gb178) (o := .cells #[.int .i64 a0_0, .int .i64 a0_1, .string a0_2] 38 (0, 0)) (by (with_reducible repeat (first | refine blk_drewN ?_ _ | refine blk_drew ?_ | refine blk_alloc ?_ _)); exact BK178.out) hb); have n1_ := Aside0.mk (below_step (by repeat (first | (with_reducible first | exact HB.out | apply below_alloc | apply pw_below_drewN | apply below_drew1 | refine below_set ?_ GE178.out) | exact HB.out)) hb); have n2_ := Aside0.mk (hbox); have n3_ := Aside0.mk ((by rw [hg]; exact (below_size (by repeat (first | (with_reducible first | exact HB.out | apply below_alloc | apply pw_below_drewN | apply below_drew1 | refine below_set ?_ GE178.out) | exact HB.out))) : w.heap.size ≤ gb179)); have n4_ := Aside0.mk ((by rw [hg]; exact (below_size (by repeat (first | (with_reducible first | exact HB.out | apply below_alloc | apply pw_below_drewN | apply below_drew1 | refine below_set ?_ GE178.out) | exact HB.out))) : w.heap.size ≤ gb179)); have n5_ := Aside0.mk ((by rw [hg]; exact Nat.ne_of_lt (blk_lt (g := gb178) (o := .cells #[.int .i64 a0_0, .int .i64 a0_1, .string a0_2] 38 (0, 0)) (by (with_reducible repeat (first | refine blk_drewN ?_ _ | refine blk_drew ?_ | refine blk_alloc ?_ _)); exact BK178.out)) : gb178 ≠ gb179)); have n6_ := Aside0.mk ((by rw [hg]; exact Nat.ne_of_gt (blk_lt (g := gb178) (o := .cells #[.int .i64 a0_0, .int .i64 a0_1, .string a0_2] 38 (0, 0)) (by (with_reducible repeat (first | refine blk_drewN ?_ _ | refine blk_drew ?_ | refine blk_alloc ?_ _)); exact BK178.out)) : gb179 ≠ gb178)); clear BK178; clear HB; have BK178 := n0_; have HB := n1_; have BK179 := n2_; have GW179 := n3_; have GE179 := n4_; have NB178_179 := n5_; have NB179_178 := n6_; clear n0_ n1_ n2_ n3_ n4_ n5_ n6_; clear hb hbox hg))
    have n0_ := Aside0.mk (blk_drew BK178.out)
    have n1_ := Aside0.mk (blk_drew BK179.out)
    have n2_ := Aside0.mk (below_drew1 HB.out)
    clear BK178
    clear BK179
    clear HB
    have BK178 := n0_
    have BK179 := n1_
    have HB := n2_
    clear n0_ n1_ n2_
    refine start_ (n := 6) (S := fun w' => w'.cell? ⟨gb178, 0, none⟩ = some (.int .i64 a0_0) ∧ w'.cell? ⟨gb178, 1, none⟩ = some (.int .i64 a0_1) ∧ w'.cell? ⟨gb178, 2, none⟩ = some (.string a0_2) ∧ w'.cell? ⟨gb179, 0, none⟩ = some (.int .i64 a1_0) ∧ w'.cell? ⟨gb179, 1, none⟩ = some (.int .i64 a1_1) ∧ w'.cell? ⟨gb179, 2, none⟩ = some (.string a1_2)) (ds := [4, 5]) #[false, false, false, false, false, false] (by kernel_rfl) rfl rfl ⟨(blk_cell BK178.out 0).trans rfl, (blk_cell BK178.out 1).trans rfl, (blk_cell BK178.out 2).trans rfl, (blk_cell BK179.out 0).trans rfl, (blk_cell BK179.out 1).trans rfl, (blk_cell BK179.out 2).trans rfl⟩ (fun hHeld => ?_)
    generalize w81.drew = w82 at BK178 BK179 HB hHeld ⊢
    refine ta (i := 0) (N := some 5) (bl 6 1) (by kernel_rfl) hHeld ?_
    refine ta (i := 2) (N := some 7) (bl 6 5) (by kernel_rfl) hHeld ?_
    refine one_ (i := 1) (N := some 6) (bl 6 7) rfl rfl (by kernel_rfl) (by decide) (fun K hK => ?_)
    refine goes_ Try.func39 (by kernel_rfl) rfl #[.agg #[.int .i64 a0_0, .int .i64 a0_1, .string a0_2]] (by rfl) rfl rfl (by (try simp only [List.map_toArray, List.map_cons, List.map_nil]); first | done | rfl | (simp only [List.length_drop, List.length_take]; rfl)) ?_
    with_reducible refine (erasureref01_Clean.calls a0_0 a0_1 a0_2 t180 t181 t182 _ A3.out).mono ?_
    rintro e w83 ⟨rfl, hb⟩
    refine ⟨_, rfl, ?_⟩
    have n0_ := Aside0.mk (blk_below (g := gb178) (o := .cells #[.int .i64 a0_0, .int .i64 a0_1, .string a0_2] 38 (0, 0)) (by (with_reducible repeat (first | refine blk_drewN ?_ _ | refine blk_drew ?_ | refine blk_alloc ?_ _)); exact BK178.out) hb)
    have n1_ := Aside0.mk (blk_below (g := gb179) (o := .cells #[.int .i64 a1_0, .int .i64 a1_1, .string a1_2] 38 (0, 0)) (by (with_reducible repeat (first | refine blk_drewN ?_ _ | refine blk_drew ?_ | refine blk_alloc ?_ _)); exact BK179.out) hb)
    have n2_ := Aside0.mk (below_step (by repeat (first | (with_reducible first | exact HB.out | apply below_alloc | apply pw_below_drewN | apply below_drew1 | refine below_set ?_ GE178.out | refine below_set ?_ GE179.out) | exact HB.out)) hb)
    clear BK178
    clear BK179
    clear HB
    have BK178 := n0_
    have BK179 := n1_
    have HB := n2_
    clear n0_ n1_ n2_
    (try clear hb)
    (try clear hb2)
    (try clear hk)
    (try clear hi)
    refine hK.out _ _ ⟨(blk_cell BK178.out 0).trans rfl, (blk_cell BK178.out 1).trans rfl, (blk_cell BK178.out 2).trans rfl, (blk_cell BK179.out 0).trans rfl, (blk_cell BK179.out 1).trans rfl, (blk_cell BK179.out 2).trans rfl⟩ (fun hHeld => ?_)
    clear hK K
    refine norm_ (a' := ?_) ?_ ?_
    rotate_left
    ·show Act.put _ (some 6) _ = _
     simp only [Act.put, List.setIfInBounds_toArray, List.set_cons_zero, List.set_cons_succ, i64_w, i32_w]
     rfl
    refine one_ (i := 3) (N := some 8) (bl 6 15) rfl rfl (by kernel_rfl) (by decide) (fun K hK => ?_)
    refine goes_ Try.func39 (by kernel_rfl) rfl #[.agg #[.int .i64 a1_0, .int .i64 a1_1, .string a1_2]] (by rfl) rfl rfl (by (try simp only [List.map_toArray, List.map_cons, List.map_nil]); first | done | rfl | (simp only [List.length_drop, List.length_take]; rfl)) ?_
    with_reducible refine (erasureref01_Clean.calls a1_0 a1_1 a1_2 t183 t184 t185 _ A4.out).mono ?_
    rintro e w84 ⟨rfl, hb⟩
    refine ⟨_, rfl, ?_⟩
    have n0_ := Aside0.mk (blk_below (g := gb178) (o := .cells #[.int .i64 a0_0, .int .i64 a0_1, .string a0_2] 38 (0, 0)) (by (with_reducible repeat (first | refine blk_drewN ?_ _ | refine blk_drew ?_ | refine blk_alloc ?_ _)); exact BK178.out) hb)
    have n1_ := Aside0.mk (blk_below (g := gb179) (o := .cells #[.int .i64 a1_0, .int .i64 a1_1, .string a1_2] 38 (0, 0)) (by (with_reducible repeat (first | refine blk_drewN ?_ _ | refine blk_drew ?_ | refine blk_alloc ?_ _)); exact BK179.out) hb)
    have n2_ := Aside0.mk (below_step (by repeat (first | (with_reducible first | exact HB.out | apply below_alloc | apply pw_below_drewN | apply below_drew1 | refine below_set ?_ GE178.out | refine below_set ?_ GE179.out) | exact HB.out)) hb)
    clear BK178
    clear BK179
    clear HB
    have BK178 := n0_
    have BK179 := n1_
    have HB := n2_
    clear n0_ n1_ n2_
    (try clear hb)
    (try clear hb2)
    (try clear hk)
    (try clear hi)
    refine hK.out _ _ ⟨(blk_cell BK178.out 0).trans rfl, (blk_cell BK178.out 1).trans rfl, (blk_cell BK178.out 2).trans rfl, (blk_cell BK179.out 0).trans rfl, (blk_cell BK179.out 1).trans rfl, (blk_cell BK179.out 2).trans rfl⟩ (fun hHeld => ?_)
    clear hK K
    refine norm_ (a' := ?_) ?_ ?_
    rotate_left
    ·show Act.put _ (some 8) _ = _
     simp only [Act.put, List.setIfInBounds_toArray, List.set_cons_zero, List.set_cons_succ, i64_w, i32_w]
     rfl
    refine last_ (i := 4) (N := none) (bl 6 31) rfl rfl (by kernel_rfl) (by decide) (fun K hK => ?_)
    have hs85 : w84.cell? ⟨gb178, 0, none⟩ = some (.int .i64 a0_0) := (blk_cell BK178.out 0).trans rfl
    have hfs85 := blk_frozen BK178.out 0
    have hns85_1 := NB179_178.out
    have hms85_1 := NB178_179.out
    have hs86 : w84.cell? ⟨gb178, 1, none⟩ = some (.int .i64 a0_1) := (blk_cell BK178.out 1).trans rfl
    have hfs86 := blk_frozen BK178.out 1
    have hns86_1 := NB179_178.out
    have hms86_1 := NB178_179.out
    have hs87 : w84.cell? ⟨gb178, 2, none⟩ = some (.string a0_2) := (blk_cell BK178.out 2).trans rfl
    have hfs87 := blk_frozen BK178.out 2
    have hns87_1 := NB179_178.out
    have hms87_1 := NB178_179.out
    refine skip_ (w1 := ?_) (by rfl) rfl ?_ ?_
    rotate_left
    ·go_simp
     rfl
    refine hK.out _ _ ?_
    clear hK K
    refine last_ (i := 5) (N := none) (bl 6 63) rfl rfl (by kernel_rfl) (by decide) (fun K hK => ?_)
    have hs88 : w84.cell? ⟨gb179, 0, none⟩ = some (.int .i64 a1_0) := (blk_cell BK179.out 0).trans rfl
    have hfs88 := blk_frozen BK179.out 0
    have hns88_0 := NB178_179.out
    have hms88_0 := NB179_178.out
    have hs89 : w84.cell? ⟨gb179, 1, none⟩ = some (.int .i64 a1_1) := (blk_cell BK179.out 1).trans rfl
    have hfs89 := blk_frozen BK179.out 1
    have hns89_0 := NB178_179.out
    have hms89_0 := NB179_178.out
    have hs90 : w84.cell? ⟨gb179, 2, none⟩ = some (.string a1_2) := (blk_cell BK179.out 2).trans rfl
    have hfs90 := blk_frozen BK179.out 2
    have hns90_0 := NB178_179.out
    have hms90_0 := NB179_178.out
    refine skip_ (w1 := ?_) (by rfl) rfl ?_ ?_
    rotate_left
    ·go_simp
     rfl
    refine hK.out _ _ ?_
    clear hK K
    refine done_ (by kernel_rfl) ?_
    have hnb91 := NB178_179.out
    have hnc91 := NB179_178.out
    have hcz92_0 : w84.cell? ⟨gb178, 0, none⟩ = some (.int .i64 a0_0) := (blk_cell BK178.out 0).trans rfl
    have hcz92_1 : w84.cell? ⟨gb178, 1, none⟩ = some (.int .i64 a0_1) := (blk_cell BK178.out 1).trans rfl
    have hcz92_2 : w84.cell? ⟨gb178, 2, none⟩ = some (.string a0_2) := (blk_cell BK178.out 2).trans rfl
    have hfz92_0 := blk_frozen BK178.out 0
    have hfz92_1 := blk_frozen BK178.out 1
    have hfz92_2 := blk_frozen BK178.out 2
    have hcz93_0 : w84.cell? ⟨gb179, 0, none⟩ = some (.int .i64 a1_0) := (blk_cell BK179.out 0).trans rfl
    have hcz93_1 : w84.cell? ⟨gb179, 1, none⟩ = some (.int .i64 a1_1) := (blk_cell BK179.out 1).trans rfl
    have hcz93_2 : w84.cell? ⟨gb179, 2, none⟩ = some (.string a1_2) := (blk_cell BK179.out 2).trans rfl
    have hfz93_0 := blk_frozen BK179.out 0
    have hfz93_1 := blk_frozen BK179.out 1
    have hfz93_2 := blk_frozen BK179.out 2
    try go_wp2
    go_ret
    exact ⟨by first | rfl | (simp [errW_none, errW_some] <;> rfl) | (simp [*, errW_none, errW_some] <;> rfl), by repeat (first | (with_reducible first | exact HB.out | apply below_alloc | apply pw_below_drewN | apply below_drew1 | refine below_set ?_ GE178.out | refine below_set ?_ GE179.out) | exact HB.out)⟩
end Go.Proofs.Ytjhnpaenhdbhpaa.P
