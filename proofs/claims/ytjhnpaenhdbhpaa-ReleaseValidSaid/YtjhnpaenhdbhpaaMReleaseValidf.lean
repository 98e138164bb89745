/- Part of the proof of ReleaseValid: printed by programs of this repo out of the translation, and by hand. Each theorem's conditions stand in its statement. -/
import Derived.Test.YtjhnpaenhdbhpaaMReleaseValida
import Derived.Test.YtjhnpaenhdbhpaaMReleaseValidb
import Derived.Test.YtjhnpaenhdbhpaaMReleaseValidc
import Derived.Test.YtjhnpaenhdbhpaaMReleaseValidd
import Derived.Test.YtjhnpaenhdbhpaaMReleaseValide
namespace Go.Proofs.Ytjhnpaenhdbhpaa.P
open Go.RowKit Go.Proofs.YtjhnpaenhdbhpaaW.PrintWords Go.Proofs.YtjhnpaenhdbhpaaW.PrintLast Go.Proofs.YtjhnpaenhdbhpaaW.PrintMore
attribute [local go_sem] max2_int min2_int max_two min_two max_three min_three max_four min_four
set_option linter.unusedVariables false
set_option linter.unusedSimpArgs false
mutual
def erasureref01_CompareRows.l0 : Nat → List (S38) → List (S38) → Int → Option (Int)
 | 0, _, _, _ => none
 | k + 1, x0, x1, x5 => if x5 < (x0.length : Int) then (erasureref01_CompareRows.j1 k x0 x1 x5 (decide (x5 < (x1.length : Int)))) else (erasureref01_CompareRows.j1 k x0 x1 x5 false)
def erasureref01_CompareRows.j1 : Nat → List (S38) → List (S38) → Int → Bool → Option (Int)
 | 0, _, _, _, _ => none
 | k + 1, x0, x1, x5, x16 => if x16 = true then (if 0 ≤ x5 then (if x5 < (x0.length : Int) then (if x5 < (x1.length : Int) then ((erasureref01_Compare.f ((rd_T38 x0 x5).f0) ((rd_T38 x0 x5).f1) ((rd_T38 x0 x5).f2) ((rd_T38 x1 x5).f0) ((rd_T38 x1 x5).f1) ((rd_T38 x1 x5).f2)).bind fun t188 => (if t188 = 0 then (erasureref01_CompareRows.l0 k x0 x1 (wrap64 (x5 + 1))) else (some t188))) else (none)) else (none)) else (none)) else (if (x0.length : Int) < (x1.length : Int) then (some (-1)) else (if (x0.length : Int) > (x1.length : Int) then (some 1) else (some 0)))
end
def erasureref01_CompareRows.f (k : Nat) (l0 : List (S38)) (l1 : List (S38)) : Option (Int) := erasureref01_CompareRows.l0 k l0 l1 0
def erasureref01_CompareRows.T4 : Bool × List (List Nat × List Nat) := (true, [([], []), ([], []), ([0, 1], [0, 1]), ([2], [2]), ([], []), ([], []), ([4, 5], [4, 5]), ([6], [6]), ([3, 7], [3, 7]), ([8, 8, 0, 1, 2, 3, 4, 5, 6, 7, 8], [8])])
def erasureref01_CompareRows.B4 : List Nat := [0, 0, 3, 7, 0, 0, 48, 112, 255, 511]
theorem erasureref01_CompareRows.tab4 : rtab .any (opsOf Try.f42 4) = erasureref01_CompareRows.T4 := by kernel_rfl
theorem erasureref01_CompareRows.bits4 : waitsOk erasureref01_CompareRows.T4.2 erasureref01_CompareRows.B4 = true := by kernel_rfl
set_option maxHeartbeats 8000000 in
set_option maxRecDepth 100000 in
theorem erasureref01_CompareRows.calls (k : Nat) (A0 : Option Addr) (c0 : Nat) (l0 : List (S38)) (A1 : Option Addr) (c1 : Nat) (l1 : List (S38)) (r : Int) (w : World) (hr0 : Kd.C k38 w A0 l0.length l0) (hc0 : l0.length ≤ c0) (hr1 : Kd.C k38 w A1 l1.length l1) (hc1 : l1.length ≤ c1) (h : erasureref01_CompareRows.f k l0 l1 = some r) :
  Calls Try.prog 42 #[.slice A0 l0.length c0, .slice A1 l1.length c1] w fun e w' => e = .returned (.int .i64 r) ∧ Below w.heap.size w w' := by
 have hu38 := Try.underlying38
 have HR0 := Aside0.mk hr0
 have HC0 := Aside0.mk hc0
 clear hr0 hc0
 have HR1 := Aside0.mk hr1
 have HC1 := Aside0.mk hc1
 clear hr1 hc1
 have HB := Aside0.mk (Below.refl w.heap.size w)
 have H : (erasureref01_CompareRows.l0 k l0 l1 0) = some r := h
 clear h
 have H' := Aside0.mk H
 clear H
 go_enter Try.func42, Try.ntmps42
 go_wp2
 go_loopg [5] k (fun kq v5 w' => ∃ (x5_1 : Int), v5 = .int .i64 x5_1 ∧ Aside0 (erasureref01_CompareRows.l0 kq l0 l1 x5_1 = some r) ∧ Aside0 (kq ≤ k) ∧ Aside0 (Below w.heap.size w w'))
 case atStart => exact ⟨(0), (by first | rfl | (simp; done) | (simp [*]; done)), H', ⟨Nat.le_refl _⟩, ⟨by repeat (first | (with_reducible first | exact HB.out | apply below_alloc | apply pw_below_drewN | apply below_drew1) | exact HB.out)⟩⟩
 case round =>
  clear H'
  try clear c1
  try clear p2
  obtain ⟨x5_1, rfl, HA, HK1, HB⟩ := hrel
  cases gk with
  | zero => exact absurd HA.out (by simp [erasureref01_CompareRows.l0])
  | succ k1 =>
   have H := HA.out
   clear HA
   simp only [erasureref01_CompareRows.l0] at H
   have HC3 := Aside0.mk H
   clear H
   go_upto_region 2 with (fail)
   go_cut [16] (fun v16 wc => ∃ (kq : Nat) (x16_2 : Bool), v16 = .bool x16_2 ∧ Aside0 (erasureref01_CompareRows.j1 kq l0 l1 x5_1 x16_2 = some r) ∧ Aside0 (kq ≤ k1) ∧ Aside0 (Below w.heap.size w wc))
   case first =>
    have H := HC3.out
    clear HC3
    by_cases c4 : x5_1 < (l0.length : Int)
    ·rw [if_pos c4] at H
     have c4b0 : decide (x5_1 < (l0.length : Int)) = true := decide_eq_true c4
     clear c4
     (first | rw [c4b0] | (simp only [i64_w, i32_w]; rw [c4b0]) | skip)
     have H' := Aside0.mk H
     clear H
     go_wp2
     go_meet
     case rel => exact ⟨_, (decide (x5_1 < (l1.length : Int))), (by first | rfl | (simp; done) | (simp [*]; done)), H', ⟨by have := HK1.out; first | omega | exact Nat.le_refl _⟩, ⟨by repeat (first | (with_reducible first | exact HB.out | apply below_alloc | apply pw_below_drewN | apply below_drew1) | exact HB.out)⟩⟩
    ·rw [if_neg c4] at H
     have c4b0 : decide (x5_1 < (l0.length : Int)) = false := decide_eq_false c4
     clear c4
     (first | rw [c4b0] | (simp only [i64_w, i32_w]; rw [c4b0]) | skip)
     have H' := Aside0.mk H
     clear H
     go_wp2
     go_meet
     case rel => exact ⟨_, (false), (by first | rfl | (simp; done) | (simp [*]; done)), H', ⟨by have := HK1.out; first | omega | exact Nat.le_refl _⟩, ⟨by repeat (first | (with_reducible first | exact HB.out | apply below_alloc | apply pw_below_drewN | apply below_drew1) | exact HB.out)⟩⟩
   case rest =>
    clear HC3
    try clear c1
    try clear p2
    try clear c4
    try clear c4b0
    try clear p2
    obtain ⟨kq, x16_2, rfl, HA, HJ2, HB⟩ := hcut
    cases kq with
    | zero => exact absurd HA.out (by simp [erasureref01_CompareRows.j1])
    | succ kj2 =>
     have H := HA.out
     clear HA
     simp only [erasureref01_CompareRows.j1] at H
     by_cases c5 : x16_2 = true
     ·subst c5
      have H1 : (if 0 ≤ x5_1 then (if x5_1 < (l0.length : Int) then (if x5_1 < (l1.length : Int) then ((erasureref01_Compare.f ((rd_T38 l0 x5_1).f0) ((rd_T38 l0 x5_1).f1) ((rd_T38 l0 x5_1).f2) ((rd_T38 l1 x5_1).f0) ((rd_T38 l1 x5_1).f1) ((rd_T38 l1 x5_1).f2)).bind fun t188 => (if t188 = 0 then (erasureref01_CompareRows.l0 kj2 l0 l1 (wrap64 (x5_1 + 1))) else (some t188))) else (none)) else (none)) else (none)) = some r := by rw [if_pos rfl] at H; exact H
      clear H
      have H := H1
      clear H1
      by_cases c6 : 0 ≤ x5_1
      ·rw [if_pos c6] at H
       have c6b0 : decide (0 ≤ x5_1) = true := decide_eq_true c6
       clear c6
       by_cases c7 : x5_1 < (l0.length : Int)
       ·rw [if_pos c7] at H
        have c7b0 : decide (x5_1 < (l0.length : Int)) = true := decide_eq_true c7
        clear c7
        by_cases c8 : x5_1 < (l1.length : Int)
        ·rw [if_pos c8] at H
         have c8b0 : decide (x5_1 < (l1.length : Int)) = true := decide_eq_true c8
         clear c8
         replace H := Option.bind_eq_some_iff.mp H
         obtain ⟨t188, A90, H⟩ := H
         replace H : (if t188 = 0 then (erasureref01_CompareRows.l0 kj2 l0 l1 (wrap64 (x5_1 + 1))) else (some t188)) = some r := H
         have A9 := Aside0.mk A90
         clear A90
         by_cases c10 : t188 = 0
         ·rw [if_pos c10] at H
          have c10b0 : (t188 == 0) = true := beq_iff_eq.mpr c10
          have c10b1 : (t188 != 0) = false := bne_eq_false_iff_eq.mpr c10
          clear c10
          have H' := Aside0.mk H
          clear H
          try go_wp2
          have n0_ := Aside0.mk (below_drew1 HB.out)
          clear HB
          have HB := n0_
          clear n0_
          have p186 : 0 ≤ (x5_1 : Int) := of_decide_eq_true (by first | (with_reducible assumption) | assumption)
          have q186 : x5_1 < (l0.length : Int) := of_decide_eq_true (by first | (with_reducible assumption) | assumption)
          obtain ⟨ad186, e186, hx186_0, hx186_1, hx186_2⟩ := at_T38 HR0.out x5_1 p186 q186
          have hw186_2 := hx186_2
          have hw186_1 := hx186_1
          have hw186_0 := hx186_0
          cases e186
          replace hx186_0 := (HB.out.cell (World.block_lt_of_cell? w _ hx186_0)).trans hx186_0
          replace hx186_1 := (HB.out.cell (World.block_lt_of_cell? w _ hx186_1)).trans hx186_1
          replace hx186_2 := (HB.out.cell (World.block_lt_of_cell? w _ hx186_2)).trans hx186_2
          replace p186 := eq_true p186
          replace q186 := eq_true q186
          have p187 : 0 ≤ (x5_1 : Int) := of_decide_eq_true (by first | (with_reducible assumption) | assumption)
          have q187 : x5_1 < (l1.length : Int) := of_decide_eq_true (by first | (with_reducible assumption) | assumption)
          obtain ⟨ad187, e187, hx187_0, hx187_1, hx187_2⟩ := at_T38 HR1.out x5_1 p187 q187
          have hw187_2 := hx187_2
          have hw187_1 := hx187_1
          have hw187_0 := hx187_0
          cases e187
          replace hx187_0 := (HB.out.cell (World.block_lt_of_cell? w _ hx187_0)).trans hx187_0
          replace hx187_1 := (HB.out.cell (World.block_lt_of_cell? w _ hx187_1)).trans hx187_1
          replace hx187_2 := (HB.out.cell (World.block_lt_of_cell? w _ hx187_2)).trans hx187_2
          replace p187 := eq_true p187
          replace q187 := eq_true q187
          refine start_ (n := 10) (S := fun w' => w'.cell? (ad186.add ((x5_1).toNat * 3)) = some (.int .i64 ((rd_T38 l0 x5_1).f0)) ∧ w'.cell? ⟨(ad186.add ((x5_1).toNat * 3)).block, (ad186.add ((x5_1).toNat * 3)).off + 1, none⟩ = some (.int .i64 ((rd_T38 l0 x5_1).f1)) ∧ w'.cell? ⟨(ad186.add ((x5_1).toNat * 3)).block, (ad186.add ((x5_1).toNat * 3)).off + 2, none⟩ = some (.string ((rd_T38 l0 x5_1).f2)) ∧ w'.cell? (ad187.add ((x5_1).toNat * 3)) = some (.int .i64 ((rd_T38 l1 x5_1).f0)) ∧ w'.cell? ⟨(ad187.add ((x5_1).toNat * 3)).block, (ad187.add ((x5_1).toNat * 3)).off + 1, none⟩ = some (.int .i64 ((rd_T38 l1 x5_1).f1)) ∧ w'.cell? ⟨(ad187.add ((x5_1).toNat * 3)).block, (ad187.add ((x5_1).toNat * 3)).off + 2, none⟩ = some (.string ((rd_T38 l1 x5_1).f2))) (ds := []) #[false, false, false, false, false, false, false, false, false, false] (by kernel_rfl) rfl rfl ⟨((HB.out.cell (World.block_lt_of_cell? w _ hw186_0)).trans hw186_0), ((HB.out.cell (World.block_lt_of_cell? w _ hw186_1)).trans hw186_1), ((HB.out.cell (World.block_lt_of_cell? w _ hw186_2)).trans hw186_2), ((HB.out.cell (World.block_lt_of_cell? w _ hw187_0)).trans hw187_0), ((HB.out.cell (World.block_lt_of_cell? w _ hw187_1)).trans hw187_1), ((HB.out.cell (World.block_lt_of_cell? w _ hw187_2)).trans hw187_2)⟩ (fun hHeld => ?_); refine with_tabW erasureref01_CompareRows.tab4 erasureref01_CompareRows.bits4 (fun HT_ HW_ => ?_)
          generalize wc.drew = w11 at HB hx186_0 hx186_1 hx186_2 hx187_0 hx187_1 hx187_2 hHeld ⊢
          refine pu (i := 0) (N := some 19) (bl 10 1) (any_of HT_.out (by kernel_rfl)) ?_
          refine pu (i := 1) (N := some 20) (bl 10 3) (any_of HT_.out (by kernel_rfl)) ?_
          refine pu (i := 2) (N := some 21) (bl 10 7) (any_of HT_.out (by kernel_rfl)) ?_
          refine pu (i := 4) (N := some 23) (bl 10 23) (any_of HT_.out (by kernel_rfl)) ?_
          refine pu (i := 5) (N := some 24) (bl 10 55) (any_of HT_.out (by kernel_rfl)) ?_
          refine pu (i := 6) (N := some 25) (bl 10 119) (any_of HT_.out (by kernel_rfl)) ?_
          refine ta (i := 3) (N := some 22) (bl 10 127) (take_ofW HT_.out HW_.out (by kernel_rfl)) hHeld ?_
          refine ta (i := 7) (N := some 26) (bl 10 255) (take_ofW HT_.out HW_.out (by kernel_rfl)) hHeld ?_
          refine one_ (i := 8) (N := some 27) (bl 10 511) rfl rfl (one_of HT_.out (by kernel_rfl)) (by decide) (fun K hK => ?_)
          refine goes_ Try.func50 (by kernel_rfl) rfl #[.agg #[.int .i64 ((rd_T38 l0 x5_1).f0), .int .i64 ((rd_T38 l0 x5_1).f1), .string ((rd_T38 l0 x5_1).f2)], .agg #[.int .i64 ((rd_T38 l1 x5_1).f0), .int .i64 ((rd_T38 l1 x5_1).f1), .string ((rd_T38 l1 x5_1).f2)]] (by rfl) rfl rfl (by (try simp only [List.map_toArray, List.map_cons, List.map_nil]); first | done | rfl | (simp only [List.length_drop, List.length_take]; rfl)) ?_
          with_reducible refine (erasureref01_Compare.calls ((rd_T38 l0 x5_1).f0) ((rd_T38 l0 x5_1).f1) ((rd_T38 l0 x5_1).f2) ((rd_T38 l1 x5_1).f0) ((rd_T38 l1 x5_1).f1) ((rd_T38 l1 x5_1).f2) t188 _ A9.out).mono ?_
          rintro e w12 ⟨rfl, hb⟩
          refine ⟨_, rfl, ?_⟩
          have n0_ := Aside0.mk (below_step (by repeat (first | (with_reducible first | exact HB.out | apply below_alloc | apply pw_below_drewN | apply below_drew1) | exact HB.out)) hb)
          clear HB
          have HB := n0_
          clear n0_
          (try clear hb)
          (try clear hb2)
          (try clear hk)
          (try clear hi)
          refine hK.out _ _ ⟨((HB.out.cell (World.block_lt_of_cell? w _ hw186_0)).trans hw186_0), ((HB.out.cell (World.block_lt_of_cell? w _ hw186_1)).trans hw186_1), ((HB.out.cell (World.block_lt_of_cell? w _ hw186_2)).trans hw186_2), ((HB.out.cell (World.block_lt_of_cell? w _ hw187_0)).trans hw187_0), ((HB.out.cell (World.block_lt_of_cell? w _ hw187_1)).trans hw187_1), ((HB.out.cell (World.block_lt_of_cell? w _ hw187_2)).trans hw187_2)⟩ (fun hHeld => ?_)
          clear hK K
          refine norm_ (a' := ?_) ?_ ?_
          rotate_left
          ·show Act.put _ (some 27) _ = _
           simp only [Act.put, List.setIfInBounds_toArray, List.set_cons_zero, List.set_cons_succ, i64_w, i32_w]
           rfl
          refine pu (i := 9) (N := some 6) (bl 10 1023) (any_of HT_.out (by kernel_rfl)) ?_
          refine done_ (done_of HT_.out (by kernel_rfl)) ?_
          try go_wp2
          go_roundg kj2
          case measure => have := HK1.out; have := HJ2.out; omega
          case rel => exact ⟨(wrap64 (x5_1 + 1)), (by first | rfl | (simp; done) | (simp [*]; done)), H', ⟨by have := HK1.out; have := HJ2.out; omega⟩, ⟨by repeat (first | (with_reducible first | exact HB.out | apply below_alloc | apply pw_below_drewN | apply below_drew1) | exact HB.out)⟩⟩
         ·rw [if_neg c10] at H
          have c10b0 : (t188 == 0) = false := beq_eq_false_iff_ne.mpr c10
          have c10b1 : (t188 != 0) = true := bne_iff_ne.mpr c10
          obtain rfl := Option.some.inj H
          try go_wp2
          have n0_ := Aside0.mk (below_drew1 HB.out)
          clear HB
          have HB := n0_
          clear n0_
          have p186 : 0 ≤ (x5_1 : Int) := of_decide_eq_true (by first | (with_reducible assumption) | assumption)
          have q186 : x5_1 < (l0.length : Int) := of_decide_eq_true (by first | (with_reducible assumption) | assumption)
          obtain ⟨ad186, e186, hx186_0, hx186_1, hx186_2⟩ := at_T38 HR0.out x5_1 p186 q186
          have hw186_2 := hx186_2
          have hw186_1 := hx186_1
          have hw186_0 := hx186_0
          cases e186
          replace hx186_0 := (HB.out.cell (World.block_lt_of_cell? w _ hx186_0)).trans hx186_0
          replace hx186_1 := (HB.out.cell (World.block_lt_of_cell? w _ hx186_1)).trans hx186_1
          replace hx186_2 := (HB.out.cell (World.block_lt_of_cell? w _ hx186_2)).trans hx186_2
          replace p186 := eq_true p186
          replace q186 := eq_true q186
          have p187 : 0 ≤ (x5_1 : Int) := of_decide_eq_true (by first | (with_reducible assumption) | assumption)
          have q187 : x5_1 < (l1.length : Int) := of_decide_eq_true (by first | (with_reducible assumption) | assumption)
          obtain ⟨ad187, e187, hx187_0, hx187_1, hx187_2⟩ := at_T38 HR1.out x5_1 p187 q187
          have hw187_2 := hx187_2
          have hw187_1 := hx187_1
          have hw187_0 := hx187_0
          cases e187
          replace hx187_0 := (HB.out.cell (World.block_lt_of_cell? w _ hx187_0)).trans hx187_0
          replace hx187_1 := (HB.out.cell (World.block_lt_of_cell? w _ hx187_1)).trans hx187_1
          replace hx187_2 := (HB.out.cell (World.block_lt_of_cell? w _ hx187_2)).trans hx187_2
          replace p187 := eq_true p187
          replace q187 := eq_true q187
          refine start_ (n := 10) (S := fun w' => w'.cell? (ad186.add ((x5_1).toNat * 3)) = some (.int .i64 ((rd_T38 l0 x5_1).f0)) ∧ w'.cell? ⟨(ad186.add ((x5_1).toNat * 3)).block, (ad186.add ((x5_1).toNat * 3)).off + 1, none⟩ = some (.int .i64 ((rd_T38 l0 x5_1).f1)) ∧ w'.cell? ⟨(ad186.add ((x5_1).toNat * 3)).block, (ad186.add ((x5_1).toNat * 3)).off + 2, none⟩ = some (.string ((rd_T38 l0 x5_1).f2)) ∧ w'.cell? (ad187.add ((x5_1).toNat * 3)) = some (.int .i64 ((rd_T38 l1 x5_1).f0)) ∧ w'.cell? ⟨(ad187.add ((x5_1).toNat * 3)).block, (ad187.add ((x5_1).toNat * 3)).off + 1, none⟩ = some (.int .i64 ((rd_T38 l1 x5_1).f1)) ∧ w'.cell? ⟨(ad187.add ((x5_1).toNat * 3)).block, (ad187.add ((x5_1).toNat * 3)).off + 2, none⟩ = some (.string ((rd_T38 l1 x5_1).f2))) (ds := []) #[false, false, false, false, false, false, false, false, false, false] (by kernel_rfl) rfl rfl ⟨((HB.out.cell (World.block_lt_of_cell? w _ hw186_0)).trans hw186_0), ((HB.out.cell (World.block_lt_of_cell? w _ hw186_1)).trans hw186_1), ((HB.out.cell (World.block_lt_of_cell? w _ hw186_2)).trans hw186_2), ((HB.out.cell (World.block_lt_of_cell? w _ hw187_0)).trans hw187_0), ((HB.out.cell (World.block_lt_of_cell? w _ hw187_1)).trans hw187_1), ((HB.out.cell (World.block_lt_of_cell? w _ hw187_2)).trans hw187_2)⟩ (fun hHeld => ?_); refine with_tabW erasureref01_CompareRows.tab4 erasureref01_CompareRows.bits4 (fun HT_ HW_ => ?_)
          generalize wc.drew = w13 at HB hx186_0 hx186_1 hx186_2 hx187_0 hx187_1 hx187_2 hHeld ⊢
          refine pu (i := 0) (N := some 19) (bl 10 1) (any_of HT_.out (by kernel_rfl)) ?_
          refine pu (i := 1) (N := some 20) (bl 10 3) (any_of HT_.out (by kernel_rfl)) ?_
          refine pu (i := 2) (N := some 21) (bl 10 7) (any_of HT_.out (by kernel_rfl)) ?_
          refine pu (i := 4) (N := some 23) (bl 10 23) (any_of HT_.out (by kernel_rfl)) ?_
          refine pu (i := 5) (N := some 24) (bl 10 55) (any_of HT_.out (by kernel_rfl)) ?_
          refine pu (i := 6) (N := some 25) (bl 10 119) (any_of HT_.out (by kernel_rfl)) ?_
          refine ta (i := 3) (N := some 22) (bl 10 127) (take_ofW HT_.out HW_.out (by kernel_rfl)) hHeld ?_
          refine ta (i := 7) (N := some 26) (bl 10 255) (take_ofW HT_.out HW_.out (by kernel_rfl)) hHeld ?_
          refine one_ (i := 8) (N := some 27) (bl 10 511) rfl rfl (one_of HT_.out (by kernel_rfl)) (by decide) (fun K hK => ?_)
          refine goes_ Try.func50 (by kernel_rfl) rfl #[.agg #[.int .i64 ((rd_T38 l0 x5_1).f0), .int .i64 ((rd_T38 l0 x5_1).f1), .string ((rd_T38 l0 x5_1).f2)], .agg #[.int .i64 ((rd_T38 l1 x5_1).f0), .int .i64 ((rd_T38 l1 x5_1).f1), .string ((rd_T38 l1 x5_1).f2)]] (by rfl) rfl rfl (by (try simp only [List.map_toArray, List.map_cons, List.map_nil]); first | done | rfl | (simp only [List.length_drop, List.length_take]; rfl)) ?_
          with_reducible refine (erasureref01_Compare.calls ((rd_T38 l0 x5_1).f0) ((rd_T38 l0 x5_1).f1) ((rd_T38 l0 x5_1).f2) ((rd_T38 l1 x5_1).f0) ((rd_T38 l1 x5_1).f1) ((rd_T38 l1 x5_1).f2) t188 _ A9.out).mono ?_
          rintro e w14 ⟨rfl, hb⟩
          refine ⟨_, rfl, ?_⟩
          have n0_ := Aside0.mk (below_step (by repeat (first | (with_reducible first | exact HB.out | apply below_alloc | apply pw_below_drewN | apply below_drew1) | exact HB.out)) hb)
          clear HB
          have HB := n0_
          clear n0_
          (try clear hb)
          (try clear hb2)
          (try clear hk)
          (try clear hi)
          refine hK.out _ _ ⟨((HB.out.cell (World.block_lt_of_cell? w _ hw186_0)).trans hw186_0), ((HB.out.cell (World.block_lt_of_cell? w _ hw186_1)).trans hw186_1), ((HB.out.cell (World.block_lt_of_cell? w _ hw186_2)).trans hw186_2), ((HB.out.cell (World.block_lt_of_cell? w _ hw187_0)).trans hw187_0), ((HB.out.cell (World.block_lt_of_cell? w _ hw187_1)).trans hw187_1), ((HB.out.cell (World.block_lt_of_cell? w _ hw187_2)).trans hw187_2)⟩ (fun hHeld => ?_)
          clear hK K
          refine norm_ (a' := ?_) ?_ ?_
          rotate_left
          ·show Act.put _ (some 27) _ = _
           simp only [Act.put, List.setIfInBounds_toArray, List.set_cons_zero, List.set_cons_succ, i64_w, i32_w]
           rfl
          refine pu (i := 9) (N := some 6) (bl 10 1023) (any_of HT_.out (by kernel_rfl)) ?_
          refine done_ (done_of HT_.out (by kernel_rfl)) ?_
          try go_wp2
          go_ret
          exact ⟨by first | rfl | (simp [errW_none, errW_some] <;> rfl) | (simp [*, errW_none, errW_some] <;> rfl), by repeat (first | (with_reducible first | exact HB.out | apply below_alloc | apply pw_below_drewN | apply below_drew1) | exact HB.out)⟩
        ·rw [if_neg c8] at H
         exact absurd H (by simp)
       ·rw [if_neg c7] at H
        exact absurd H (by simp)
      ·rw [if_neg c6] at H
       exact absurd H (by simp)
     ·replace c5 := Bool.eq_false_iff.mpr c5
      subst c5
      have H1 : (if (l0.length : Int) < (l1.length : Int) then (some (-1)) else (if (l0.length : Int) > (l1.length : Int) then (some 1) else (some 0))) = some r := by rw [if_neg (show ¬ (false = true) by decide)] at H; exact H
      clear H
      have H := H1
      clear H1
      by_cases c15 : (l0.length : Int) < (l1.length : Int)
      ·rw [if_pos c15] at H
       have c15b0 : decide ((l0.length : Int) < (l1.length : Int)) = true := decide_eq_true c15
       have c15b1 : decide (l0.length < l1.length) = true := decide_eq_true (Int.ofNat_lt.mp c15)
       clear c15
       obtain rfl := Option.some.inj H
       go_wp2
       go_ret
       exact ⟨by first | rfl | (simp [errW_none, errW_some] <;> rfl) | (simp [*, errW_none, errW_some] <;> rfl), by repeat (first | (with_reducible first | exact HB.out | apply below_alloc | apply pw_below_drewN | apply below_drew1) | exact HB.out)⟩
      ·rw [if_neg c15] at H
       have c15b0 : decide ((l0.length : Int) < (l1.length : Int)) = false := decide_eq_false c15
       have c15b1 : decide (l0.length < l1.length) = false := decide_eq_false (fun h => c15 (Int.ofNat_lt.mpr h))
       clear c15
       by_cases c16 : (l0.length : Int) > (l1.length : Int)
       ·rw [if_pos c16] at H
        have c16b0 : decide ((l1.length : Int) < (l0.length : Int)) = true := decide_eq_true c16
        have c16b1 : decide (l1.length < l0.length) = true := decide_eq_true (Int.ofNat_lt.mp c16)
        clear c16
        obtain rfl := Option.some.inj H
        go_wp2
        go_ret
        exact ⟨by first | rfl | (simp [errW_none, errW_some] <;> rfl) | (simp [*, errW_none, errW_some] <;> rfl), by repeat (first | (with_reducible first | exact HB.out | apply below_alloc | apply pw_below_drewN | apply below_drew1) | exact HB.out)⟩
       ·rw [if_neg c16] at H
        have c16b0 : decide ((l1.length : Int) < (l0.length : Int)) = false := decide_eq_false c16
        have c16b1 : decide (l1.length < l0.length) = false := decide_eq_false (fun h => c16 (Int.ofNat_lt.mpr h))
        clear c16
        obtain rfl := Option.some.inj H
        go_wp2
        go_ret
        exact ⟨by first | rfl | (simp [errW_none, errW_some] <;> rfl) | (simp [*, errW_none, errW_some] <;> rfl), by repeat (first | (with_reducible first | exact HB.out | apply below_alloc | apply pw_below_drewN | apply below_drew1) | exact HB.out)⟩
end Go.Proofs.Ytjhnpaenhdbhpaa.P
namespace Go.Proofs.Ytjhnpaenhdbhpaa.P
open Go.RowKit Go.Proofs.YtjhnpaenhdbhpaaW.PrintWords Go.Proofs.YtjhnpaenhdbhpaaW.PrintLast Go.Proofs.YtjhnpaenhdbhpaaW.PrintMore
attribute [local go_sem] max2_int min2_int max_two min_two max_three min_three max_four min_four
set_option linter.unusedVariables false
set_option linter.unusedSimpArgs false
def erasureref35_Valid.l0 : Nat → List (S43) → Int → ByteArray → ByteArray → Int → Option (Bool)
 | 0, _, _, _, _, _ => none
 | k + 1, x1, x5, x397000, x397001, x397002 => if x5 < (x1.length : Int) then (if x397002 < 1 then (some false) else (if 0 ≤ x5 then (if ((rd_T43 x1 x5).f1) < 1 then (some false) else (if x397002 = 0 then (none) else (if (Int.tmod ((rd_T43 x1 x5).f1) x397002) = 0 then (if x5 > 0 then (if 0 ≤ (wrap64 (x5 - 1)) then (if (wrap64 (x5 - 1)) < (x1.length : Int) then ((erasureref01_CompareRows.f k ((rd_T43 x1 (wrap64 (x5 - 1))).f0) ((rd_T43 x1 x5).f0)).bind fun t401 => (if t401 ≥ 0 then (some false) else (erasureref35_Valid.l0 k x1 (wrap64 (x5 + 1)) x397000 x397001 x397002))) else (none)) else (none)) else (erasureref35_Valid.l0 k x1 (wrap64 (x5 + 1)) x397000 x397001 x397002)) else (some false)))) else (none))) else (some (decide (x397002 ≥ 1)))
def erasureref35_Valid.f (k : Nat) (a0_0 : ByteArray) (a0_1 : ByteArray) (a0_2 : Int) (l1 : List (S43)) : Option (Bool) := erasureref35_Valid.l0 k l1 0 a0_0 a0_1 a0_2
def erasureref35_Valid.T4 : Bool × List (List Nat × List Nat) := (true, [([], []), ([0], [0]), ([1], [1]), ([2], [2]), ([3], [3]), ([3], [3]), ([4, 5, 3], [3, 4, 5]), ([6, 3], [3, 6]), ([7, 3], [3, 7]), ([8, 3], [3, 8]), ([3, 9], [3, 9]), ([10, 3], [10]), ([11], [11]), ([11], [11]), ([12, 13, 11], [11, 12, 13]), ([14, 11], [11, 14]), ([15, 11], [11, 15]), ([11], [11]), ([17, 11], [11, 17]), ([16, 18, 11], [11, 16, 18]), ([19, 11], [11, 19]), ([11, 20], [11, 20]), ([21, 11], [21]), ([22], [22]), ([23, 22], [22, 23]), ([24, 22, 22], [22, 24]), ([25], [25]), ([25], [25]), ([27, 25], [25, 27]), ([26, 28, 25], [25, 26, 28]), ([29, 25], [25, 29]), ([30, 25], [25, 30]), ([25], [25]), ([25], [25]), ([32, 33, 25], [25, 32, 33]), ([34, 25], [25, 34]), ([35, 25], [25, 35]), ([31, 36, 25, 25], [25, 31, 36]), ([37, 25], [25, 37]), ([25, 38, 22], [22, 25, 38]), ([22, 39], [22, 39])])
def erasureref35_Valid.B4 : List Nat := [0, 1, 3, 7, 15, 15, 63, 127, 255, 511, 1023, 2047, 4095, 4095, 16383, 32767, 65535, 4095, 135167, 524287, 1048575, 2097151, 4194303, 8388607, 16777215, 33554431, 67108863, 67108863, 201326591, 536870911, 1073741823, 2147483647, 67108863, 67108863, 12952010751, 30131879935, 64491618303, 137438953471, 274877906943, 549755813887, 1099511627775]
theorem erasureref35_Valid.tab4 : rtab .any (opsOf Try.f24 4) = erasureref35_Valid.T4 := by kernel_rfl
theorem erasureref35_Valid.bits4 : waitsOk erasureref35_Valid.T4.2 erasureref35_Valid.B4 = true := by kernel_rfl
set_option maxHeartbeats 8000000 in
set_option maxRecDepth 100000 in
theorem erasureref35_Valid.calls (k : Nat) (a0_0 : ByteArray) (a0_1 : ByteArray) (a0_2 : Int) (A1 : Option Addr) (c1 : Nat) (l1 : List (S43)) (r : Bool) (w : World) (hr1 : Kd.C k43 w A1 l1.length l1) (hc1 : l1.length ≤ c1) (h : erasureref35_Valid.f k a0_0 a0_1 a0_2 l1 = some r) :
  Calls Try.prog 24 #[.agg #[.string a0_0, .string a0_1, .int .i64 a0_2], .slice A1 l1.length c1] w fun e w' => e = .returned (.bool r) ∧ Below w.heap.size w w' := by
 have hu23 := Try.underlying23
 have HR1 := Aside0.mk hr1
 have HC1 := Aside0.mk hc1
 clear hr1 hc1
 have HB := Aside0.mk (Below.refl w.heap.size w)
 have H : (erasureref35_Valid.l0 k l1 0 a0_0 a0_1 a0_2) = some r := h
 clear h
 have H' := Aside0.mk H
 clear H
 go_enter Try.func24, Try.ntmps24
 go_wp2_with (first | ((with_reducible refine gate_dst (N := 2) rfl ?_); refine box_event ?hg (N := 2) ?hd (cs := #[.string a0_0, .string a0_1, .int .i64 a0_2]) (t := 23) ?hr ?_; (case hd => rfl); (case hg => rfl); (case hr => first | (go_simp; done) | (go_simp; rfl)); intro gb396 hg w3 hbox hb; have n0_ := Aside0.mk (below_step (by repeat (first | (with_reducible first | exact HB.out | apply below_alloc | apply pw_below_drewN | apply below_drew1) | exact HB.out)) hb); have n1_ := Aside0.mk (hbox); have n2_ := Aside0.mk ((by rw [hg]; exact (below_size (by repeat (first | (with_reducible first | exact HB.out | apply below_alloc | apply pw_below_drewN | apply below_drew1) | exact HB.out))) : w.heap.size ≤ gb396)); have n3_ := Aside0.mk ((by rw [hg]; exact (below_size (by repeat (first | (with_reducible first | exact HB.out | apply below_alloc | apply pw_below_drewN | apply below_drew1) | exact HB.out))) : w.heap.size ≤ gb396)); clear HB; have HB := n0_; have BK396 := n1_; have GW396 := n2_; have GE396 := n3_; clear n0_ n1_ n2_ n3_; clear hb hbox hg))
 go_loopg [5] k (fun kq v5 w' => ∃ (x5_1 : Int), v5 = .int .i64 x5_1 ∧ Aside0 (erasureref35_Valid.l0 kq l1 x5_1 a0_0 a0_1 a0_2 = some r) ∧ Aside0 (kq ≤ k) ∧ Aside0 (w'.heap[gb396]? = some (.cells #[.string a0_0, .string a0_1, .int .i64 a0_2] 23 (0, 0))) ∧ Aside0 (Below w.heap.size w w'))
 case atStart => exact ⟨(0), (by first | rfl | (simp; done) | (simp [*]; done)), H', ⟨Nat.le_refl _⟩, ⟨by (with_reducible repeat (first | refine blk_drewN ?_ _ | refine blk_drew ?_ | refine blk_alloc ?_ _)); exact BK396.out⟩, ⟨by repeat (first | (with_reducible first | exact HB.out | apply below_alloc | apply pw_below_drewN | apply below_drew1 | refine below_set ?_ GE396.out) | exact HB.out)⟩⟩
 case round =>
  clear H'
  try clear c1
  try clear c2
  try clear p2
  obtain ⟨x5_1, rfl, HA, HK1, BK396, HB⟩ := hrel
  cases gk with
  | zero => exact absurd HA.out (by simp [erasureref35_Valid.l0])
  | succ k1 =>
   have H := HA.out
   clear HA
   simp only [erasureref35_Valid.l0] at H
   by_cases c4 : x5_1 < (l1.length : Int)
   ·rw [if_pos c4] at H
    have c4b0 : decide (x5_1 < (l1.length : Int)) = true := decide_eq_true c4
    clear c4
    by_cases c5 : a0_2 < 1
    ·rw [if_pos c5] at H
     have c5b0 : decide (a0_2 < 1) = true := decide_eq_true c5
     clear c5
     obtain rfl := Option.some.inj H
     try go_wp2
     have n0_ := Aside0.mk (blk_drew BK396.out)
     have n1_ := Aside0.mk (below_drew1 HB.out)
     clear BK396
     clear HB
     have BK396 := n0_
     have HB := n1_
     clear n0_ n1_
     refine start_ (n := 41) (S := fun w' => w'.cell? ⟨gb396, 0, none⟩ = some (.string a0_0) ∧ w'.cell? ⟨gb396, 1, none⟩ = some (.string a0_1) ∧ w'.cell? ⟨gb396, 2, none⟩ = some (.int .i64 a0_2)) (ds := []) #[false, false, false, false, false, false, false, false, false, false, false, false, false, false, false, false, false, false, false, false, false, false, false, false, false, false, false, false, false, false, false, false, false, false, false, false, false, false, false, false, false] (by kernel_rfl) rfl rfl ⟨(blk_cell BK396.out 0).trans rfl, (blk_cell BK396.out 1).trans rfl, (blk_cell BK396.out 2).trans rfl⟩ (fun hHeld => ?_); refine with_tabW erasureref35_Valid.tab4 erasureref35_Valid.bits4 (fun HT_ HW_ => ?_)
     generalize wr.drew = w6 at BK396 HB hHeld ⊢
     refine pu (i := 0) (N := some 12) (bl 41 1) (any_of HT_.out (by kernel_rfl)) ?_
     refine ta (i := 1) (N := some 13) (bl 41 3) (take_ofW HT_.out HW_.out (by kernel_rfl)) hHeld ?_
     refine pu (i := 2) (N := some 14) (bl 41 7) (any_of HT_.out (by kernel_rfl)) ?_
     refine pu (i := 3) (N := some 15) (bl 41 15) (any_of HT_.out (by kernel_rfl)) ?_
     refine po (i := 4) (N := some 16) (bl 41 31) (any_of HT_.out (by kernel_rfl)) ?_
     refine po (i := 5) (N := some 17) (bl 41 63) (any_of HT_.out (by kernel_rfl)) ?_
     refine po (i := 6) (N := some 18) (bl 41 127) (any_of HT_.out (by kernel_rfl)) ?_
     refine po (i := 7) (N := some 19) (bl 41 255) (any_of HT_.out (by kernel_rfl)) ?_
     refine po (i := 8) (N := some 20) (bl 41 511) (any_of HT_.out (by kernel_rfl)) ?_
     refine po (i := 9) (N := some 21) (bl 41 1023) (any_of HT_.out (by kernel_rfl)) ?_
     refine pu (i := 10) (N := some 22) (bl 41 2047) (any_of HT_.out (by kernel_rfl)) ?_
     refine pu (i := 11) (N := some 23) (bl 41 4095) (any_of HT_.out (by kernel_rfl)) ?_
     refine po (i := 12) (N := some 24) (bl 41 8191) (any_of HT_.out (by kernel_rfl)) ?_
     refine po (i := 13) (N := some 25) (bl 41 16383) (any_of HT_.out (by kernel_rfl)) ?_
     refine po (i := 14) (N := some 26) (bl 41 32767) (any_of HT_.out (by kernel_rfl)) ?_
     refine po (i := 15) (N := some 27) (bl 41 65535) (any_of HT_.out (by kernel_rfl)) ?_
     refine po (i := 16) (N := some 28) (bl 41 131071) (any_of HT_.out (by kernel_rfl)) ?_
     refine po (i := 17) (N := some 29) (bl 41 262143) (any_of HT_.out (by kernel_rfl)) ?_
     refine po (i := 18) (N := some 30) (bl 41 524287) (any_of HT_.out (by kernel_rfl)) ?_
     refine po (i := 19) (N := some 31) (bl 41 1048575) (any_of HT_.out (by kernel_rfl)) ?_
     refine po (i := 20) (N := some 32) (bl 41 2097151) (any_of HT_.out (by kernel_rfl)) ?_
     refine pu (i := 21) (N := some 33) (bl 41 4194303) (any_of HT_.out (by kernel_rfl)) ?_
     refine pu (i := 22) (N := some 34) (bl 41 8388607) (any_of HT_.out (by kernel_rfl)) ?_
     refine po (i := 23) (N := some 35) (bl 41 16777215) (any_of HT_.out (by kernel_rfl)) ?_
     refine po (i := 24) (N := some 36) (bl 41 33554431) (any_of HT_.out (by kernel_rfl)) ?_
     refine po (i := 25) (N := some 37) (bl 41 67108863) (any_of HT_.out (by kernel_rfl)) ?_
     refine po (i := 26) (N := some 38) (bl 41 134217727) (any_of HT_.out (by kernel_rfl)) ?_
     refine po (i := 27) (N := some 39) (bl 41 268435455) (any_of HT_.out (by kernel_rfl)) ?_
     refine po (i := 28) (N := some 40) (bl 41 536870911) (any_of HT_.out (by kernel_rfl)) ?_
     refine po (i := 29) (N := some 41) (bl 41 1073741823) (any_of HT_.out (by kernel_rfl)) ?_
     refine po (i := 30) (N := some 42) (bl 41 2147483647) (any_of HT_.out (by kernel_rfl)) ?_
     refine po (i := 31) (N := some 43) (bl 41 4294967295) (any_of HT_.out (by kernel_rfl)) ?_
     refine po (i := 32) (N := some 44) (bl 41 8589934591) (any_of HT_.out (by kernel_rfl)) ?_
     refine po (i := 33) (N := some 45) (bl 41 17179869183) (any_of HT_.out (by kernel_rfl)) ?_
     refine po (i := 34) (N := some 46) (bl 41 34359738367) (any_of HT_.out (by kernel_rfl)) ?_
     refine po (i := 35) (N := some 47) (bl 41 68719476735) (any_of HT_.out (by kernel_rfl)) ?_
     refine po (i := 36) (N := some 48) (bl 41 137438953471) (any_of HT_.out (by kernel_rfl)) ?_
     refine po (i := 37) (N := some 49) (bl 41 274877906943) (any_of HT_.out (by kernel_rfl)) ?_
     refine po (i := 38) (N := some 50) (bl 41 549755813887) (any_of HT_.out (by kernel_rfl)) ?_
     refine po (i := 39) (N := some 51) (bl 41 1099511627775) (any_of HT_.out (by kernel_rfl)) ?_
     refine pu (i := 40) (N := some 52) (bl 41 2199023255551) (any_of HT_.out (by kernel_rfl)) ?_
     refine done_ (done_of HT_.out (by kernel_rfl)) ?_
     try go_wp2
     go_ret
     exact ⟨by first | rfl | (simp [errW_none, errW_some] <;> rfl) | (simp [*, errW_none, errW_some] <;> rfl), by repeat (first | (with_reducible first | exact HB.out | apply below_alloc | apply pw_below_drewN | apply below_drew1 | refine below_set ?_ GE396.out) | exact HB.out)⟩
    ·rw [if_neg c5] at H
     have c5b0 : decide (a0_2 < 1) = false := decide_eq_false c5
     clear c5
     by_cases c7 : 0 ≤ x5_1
     ·rw [if_pos c7] at H
      have c7b0 : decide (0 ≤ x5_1) = true := decide_eq_true c7
      clear c7
      by_cases c8 : ((rd_T43 l1 x5_1).f1) < 1
      ·rw [if_pos c8] at H
       have c8b0 : decide (((rd_T43 l1 x5_1).f1) < 1) = true := decide_eq_true c8
       clear c8
       obtain rfl := Option.some.inj H
       try go_wp2
       have n0_ := Aside0.mk (blk_drew BK396.out)
       have n1_ := Aside0.mk (below_drew1 HB.out)
       clear BK396
       clear HB
       have BK396 := n0_
       have HB := n1_
       clear n0_ n1_
       have p397 : 0 ≤ (x5_1 : Int) := of_decide_eq_true (by first | (with_reducible assumption) | assumption)
       have q397 : x5_1 < (l1.length : Int) := of_decide_eq_true (by first | (with_reducible assumption) | assumption)
       obtain ⟨ad397, A397_0, c397_0, e397, hx397_0, hx397_1, hl397_0, hi397_0⟩ := at_T43 HR1.out x5_1 p397 q397
       have hw397_1 := hx397_1
       have hw397_0 := hx397_0
       cases e397
       replace hx397_0 := (HB.out.cell (World.block_lt_of_cell? w _ hx397_0)).trans hx397_0
       replace hx397_1 := (HB.out.cell (World.block_lt_of_cell? w _ hx397_1)).trans hx397_1
       have HR397_0 := Aside0.mk hi397_0
       have HC397_0 := Aside0.mk hl397_0
       clear hi397_0 hl397_0
       replace p397 := eq_true p397
       replace q397 := eq_true q397
       refine start_ (n := 41) (S := fun w' => w'.cell? ⟨gb396, 0, none⟩ = some (.string a0_0) ∧ w'.cell? ⟨gb396, 1, none⟩ = some (.string a0_1) ∧ w'.cell? ⟨gb396, 2, none⟩ = some (.int .i64 a0_2) ∧ w'.cell? (ad397.add ((x5_1).toNat * 2)) = some (.slice A397_0 ((rd_T43 l1 x5_1).f0).length c397_0) ∧ w'.cell? ⟨(ad397.add ((x5_1).toNat * 2)).block, (ad397.add ((x5_1).toNat * 2)).off + 1, none⟩ = some (.int .i64 ((rd_T43 l1 x5_1).f1))) (ds := []) #[false, false, false, false, false, false, false, false, false, false, false, false, false, false, false, false, false, false, false, false, false, false, false, false, false, false, false, false, false, false, false, false, false, false, false, false, false, false, false, false, false] (by kernel_rfl) rfl rfl ⟨(blk_cell BK396.out 0).trans rfl, (blk_cell BK396.out 1).trans rfl, (blk_cell BK396.out 2).trans rfl, ((HB.out.cell (World.block_lt_of_cell? w _ hw397_0)).trans hw397_0), ((HB.out.cell (World.block_lt_of_cell? w _ hw397_1)).trans hw397_1)⟩ (fun hHeld => ?_); refine with_tabW erasureref35_Valid.tab4 erasureref35_Valid.bits4 (fun HT_ HW_ => ?_)
       generalize wr.drew = w9 at BK396 HB HR397_0 hx397_0 hx397_1 hHeld ⊢
       refine pu (i := 0) (N := some 12) (bl 41 1) (any_of HT_.out (by kernel_rfl)) ?_
       refine ta (i := 1) (N := some 13) (bl 41 3) (take_ofW HT_.out HW_.out (by kernel_rfl)) hHeld ?_
       refine pu (i := 2) (N := some 14) (bl 41 7) (any_of HT_.out (by kernel_rfl)) ?_
       refine pu (i := 3) (N := some 15) (bl 41 15) (any_of HT_.out (by kernel_rfl)) ?_
       refine pu (i := 4) (N := some 16) (bl 41 31) (any_of HT_.out (by kernel_rfl)) ?_
       refine pu (i := 5) (N := some 17) (bl 41 63) (any_of HT_.out (by kernel_rfl)) ?_
       refine pu (i := 6) (N := some 18) (bl 41 127) (any_of HT_.out (by kernel_rfl)) ?_
       refine pu (i := 7) (N := some 19) (bl 41 255) (any_of HT_.out (by kernel_rfl)) ?_
       refine ta (i := 8) (N := some 20) (bl 41 511) (take_ofW HT_.out HW_.out (by kernel_rfl)) hHeld ?_
       refine pu (i := 9) (N := some 21) (bl 41 1023) (any_of HT_.out (by kernel_rfl)) ?_
       refine pu (i := 10) (N := some 22) (bl 41 2047) (any_of HT_.out (by kernel_rfl)) ?_
       refine pu (i := 11) (N := some 23) (bl 41 4095) (any_of HT_.out (by kernel_rfl)) ?_
       refine po (i := 12) (N := some 24) (bl 41 8191) (any_of HT_.out (by kernel_rfl)) ?_
       refine po (i := 13) (N := some 25) (bl 41 16383) (any_of HT_.out (by kernel_rfl)) ?_
       refine po (i := 14) (N := some 26) (bl 41 32767) (any_of HT_.out (by kernel_rfl)) ?_
       refine po (i := 15) (N := some 27) (bl 41 65535) (any_of HT_.out (by kernel_rfl)) ?_
       refine po (i := 16) (N := some 28) (bl 41 131071) (any_of HT_.out (by kernel_rfl)) ?_
       refine po (i := 17) (N := some 29) (bl 41 262143) (any_of HT_.out (by kernel_rfl)) ?_
       refine po (i := 18) (N := some 30) (bl 41 524287) (any_of HT_.out (by kernel_rfl)) ?_
       refine po (i := 19) (N := some 31) (bl 41 1048575) (any_of HT_.out (by kernel_rfl)) ?_
       refine po (i := 20) (N := some 32) (bl 41 2097151) (any_of HT_.out (by kernel_rfl)) ?_
       refine pu (i := 21) (N := some 33) (bl 41 4194303) (any_of HT_.out (by kernel_rfl)) ?_
       refine pu (i := 22) (N := some 34) (bl 41 8388607) (any_of HT_.out (by kernel_rfl)) ?_
       refine po (i := 23) (N := some 35) (bl 41 16777215) (any_of HT_.out (by kernel_rfl)) ?_
       refine po (i := 24) (N := some 36) (bl 41 33554431) (any_of HT_.out (by kernel_rfl)) ?_
       refine po (i := 25) (N := some 37) (bl 41 67108863) (any_of HT_.out (by kernel_rfl)) ?_
       refine po (i := 26) (N := some 38) (bl 41 134217727) (any_of HT_.out (by kernel_rfl)) ?_
       refine po (i := 27) (N := some 39) (bl 41 268435455) (any_of HT_.out (by kernel_rfl)) ?_
       refine po (i := 28) (N := some 40) (bl 41 536870911) (any_of HT_.out (by kernel_rfl)) ?_
       refine po (i := 29) (N := some 41) (bl 41 1073741823) (any_of HT_.out (by kernel_rfl)) ?_
       refine po (i := 30) (N := some 42) (bl 41 2147483647) (any_of HT_.out (by kernel_rfl)) ?_
       refine po (i := 31) (N := some 43) (bl 41 4294967295) (any_of HT_.out (by kernel_rfl)) ?_
       refine po (i := 32) (N := some 44) (bl 41 8589934591) (any_of HT_.out (by kernel_rfl)) ?_
       refine po (i := 33) (N := some 45) (bl 41 17179869183) (any_of HT_.out (by kernel_rfl)) ?_
       refine po (i := 34) (N := some 46) (bl 41 34359738367) (any_of HT_.out (by kernel_rfl)) ?_
       refine po (i := 35) (N := some 47) (bl 41 68719476735) (any_of HT_.out (by kernel_rfl)) ?_
       refine po (i := 36) (N := some 48) (bl 41 137438953471) (any_of HT_.out (by kernel_rfl)) ?_
       refine po (i := 37) (N := some 49) (bl 41 274877906943) (any_of HT_.out (by kernel_rfl)) ?_
       refine po (i := 38) (N := some 50) (bl 41 549755813887) (any_of HT_.out (by kernel_rfl)) ?_
       refine po (i := 39) (N := some 51) (bl 41 1099511627775) (any_of HT_.out (by kernel_rfl)) ?_
       refine pu (i := 40) (N := some 52) (bl 41 2199023255551) (any_of HT_.out (by kernel_rfl)) ?_
       refine done_ (done_of HT_.out (by kernel_rfl)) ?_
       try go_wp2
       go_ret
       exact ⟨by first | rfl | (simp [errW_none, errW_some] <;> rfl) | (simp [*, errW_none, errW_some] <;> rfl), by repeat (first | (with_reducible first | exact HB.out | apply below_alloc | apply pw_below_drewN | apply below_drew1 | refine below_set ?_ GE396.out) | exact HB.out)⟩
      ·rw [if_neg c8] at H
       have c8b0 : decide (((rd_T43 l1 x5_1).f1) < 1) = false := decide_eq_false c8
       clear c8
       by_cases c10 : a0_2 = 0
       ·rw [if_pos c10] at H
        exact absurd H (by simp)
       ·rw [if_neg c10] at H
        have c10b0 : (a0_2 == 0) = false := beq_eq_false_iff_ne.mpr c10
        have c10b1 : (a0_2 != 0) = true := bne_iff_ne.mpr c10
        by_cases c11 : (Int.tmod ((rd_T43 l1 x5_1).f1) a0_2) = 0
        ·rw [if_pos c11] at H
         have c11b0 : ((Int.tmod ((rd_T43 l1 x5_1).f1) a0_2) == 0) = true := beq_iff_eq.mpr c11
         have c11b1 : ((Int.tmod ((rd_T43 l1 x5_1).f1) a0_2) != 0) = false := bne_eq_false_iff_eq.mpr c11
         clear c11
         by_cases c12 : x5_1 > 0
         ·rw [if_pos c12] at H
          have c12b0 : decide (0 < x5_1) = true := decide_eq_true c12
          clear c12
          obtain ⟨ji13, hji13⟩ : ∃ j_ : Int, (wrap64 (x5_1 - 1)) = j_ := ⟨_, rfl⟩
          replace H : (if 0 ≤ (ji13) then (if (ji13) < (l1.length : Int) then ((erasureref01_CompareRows.f k1 ((rd_T43 l1 (ji13)).f0) ((rd_T43 l1 x5_1).f0)).bind fun t401 => (if t401 ≥ 0 then (some false) else (erasureref35_Valid.l0 k1 l1 (wrap64 (x5_1 + 1)) a0_0 a0_1 a0_2))) else (none)) else (none)) = some r := by first | (rw [hji13] at H; exact H) | (simp only [hji13] at H ⊢; exact H)
          have hji13w : (IntKind.i64.wrap (x5_1 - 1)) = ji13 := (i64_w _).trans hji13
          by_cases c14 : 0 ≤ (ji13)
          ·rw [if_pos c14] at H
           have c14b0 : decide (0 ≤ (ji13)) = true := decide_eq_true c14
           clear c14
           by_cases c15 : (ji13) < (l1.length : Int)
           ·rw [if_pos c15] at H
            have c15b0 : decide ((ji13) < (l1.length : Int)) = true := decide_eq_true c15
            clear c15
            replace H := Option.bind_eq_some_iff.mp H
            obtain ⟨t401, A160, H⟩ := H
            replace H : (if t401 ≥ 0 then (some false) else (erasureref35_Valid.l0 k1 l1 (wrap64 (x5_1 + 1)) a0_0 a0_1 a0_2)) = some r := H
            have A16 := Aside0.mk A160
            clear A160
            by_cases c17 : t401 ≥ 0
            ·rw [if_pos c17] at H
             have c17b0 : decide (0 ≤ t401) = true := decide_eq_true c17
             clear c17
             obtain rfl := Option.some.inj H
             try go_wp2
             have n0_ := Aside0.mk (blk_drew BK396.out)
             have n1_ := Aside0.mk (below_drew1 HB.out)
             clear BK396
             clear HB
             have BK396 := n0_
             have HB := n1_
             clear n0_ n1_
             have p397 : 0 ≤ (x5_1 : Int) := of_decide_eq_true (by first | (with_reducible assumption) | assumption)
             have q397 : x5_1 < (l1.length : Int) := of_decide_eq_true (by first | (with_reducible assumption) | assumption)
             obtain ⟨ad397, A397_0, c397_0, e397, hx397_0, hx397_1, hl397_0, hi397_0⟩ := at_T43 HR1.out x5_1 p397 q397
             have hw397_1 := hx397_1
             have hw397_0 := hx397_0
             cases e397
             replace hx397_0 := (HB.out.cell (World.block_lt_of_cell? w _ hx397_0)).trans hx397_0
             replace hx397_1 := (HB.out.cell (World.block_lt_of_cell? w _ hx397_1)).trans hx397_1
             have HR397_0 := Aside0.mk hi397_0
             have HC397_0 := Aside0.mk hl397_0
             clear hi397_0 hl397_0
             replace p397 := eq_true p397
             replace q397 := eq_true q397
             have p398 : 0 ≤ (x5_1 : Int) := of_decide_eq_true (by first | (with_reducible assumption) | assumption)
             have q398 : x5_1 < (l1.length : Int) := of_decide_eq_true (by first | (with_reducible assumption) | assumption)
             obtain ⟨ad398, A398_0, c398_0, e398, hx398_0, hx398_1, hl398_0, hi398_0⟩ := at_T43 HR1.out x5_1 p398 q398
             have hw398_1 := hx398_1
             have hw398_0 := hx398_0
             obtain rfl : ad397 = ad398 := (by injection e398)
             replace hx398_0 := (HB.out.cell (World.block_lt_of_cell? w _ hx398_0)).trans hx398_0
             replace hx398_1 := (HB.out.cell (World.block_lt_of_cell? w _ hx398_1)).trans hx398_1
             have HR398_0 := Aside0.mk hi398_0
             have HC398_0 := Aside0.mk hl398_0
             clear hi398_0 hl398_0
             replace p398 := eq_true p398
             replace q398 := eq_true q398
             have ea_ := Option.some.inj (hx397_0.symm.trans hx398_0)
             injection ea_ with ea_ en_ ec_
             subst ea_
             subst ec_
             clear en_
             have p399 : 0 ≤ ((ji13) : Int) := of_decide_eq_true (by first | (with_reducible assumption) | assumption)
             have q399 : (ji13) < (l1.length : Int) := of_decide_eq_true (by first | (with_reducible assumption) | assumption)
             obtain ⟨ad399, A399_0, c399_0, e399, hx399_0, hx399_1, hl399_0, hi399_0⟩ := at_T43 HR1.out (ji13) p399 q399
             have hw399_1 := hx399_1
             have hw399_0 := hx399_0
             obtain rfl : ad397 = ad399 := (by injection e399)
             replace hx399_0 := (HB.out.cell (World.block_lt_of_cell? w _ hx399_0)).trans hx399_0
             replace hx399_1 := (HB.out.cell (World.block_lt_of_cell? w _ hx399_1)).trans hx399_1
             have HR399_0 := Aside0.mk hi399_0
             have HC399_0 := Aside0.mk hl399_0
             clear hi399_0 hl399_0
             replace p399 := eq_true p399
             replace q399 := eq_true q399
             have p400 : 0 ≤ (x5_1 : Int) := of_decide_eq_true (by first | (with_reducible assumption) | assumption)
             have q400 : x5_1 < (l1.length : Int) := of_decide_eq_true (by first | (with_reducible assumption) | assumption)
             obtain ⟨ad400, A400_0, c400_0, e400, hx400_0, hx400_1, hl400_0, hi400_0⟩ := at_T43 HR1.out x5_1 p400 q400
             have hw400_1 := hx400_1
             have hw400_0 := hx400_0
             obtain rfl : ad397 = ad400 := (by injection e400)
             replace hx400_0 := (HB.out.cell (World.block_lt_of_cell? w _ hx400_0)).trans hx400_0
             replace hx400_1 := (HB.out.cell (World.block_lt_of_cell? w _ hx400_1)).trans hx400_1
             have HR400_0 := Aside0.mk hi400_0
             have HC400_0 := Aside0.mk hl400_0
             clear hi400_0 hl400_0
             replace p400 := eq_true p400
             replace q400 := eq_true q400
             have ea_ := Option.some.inj (hx397_0.symm.trans hx400_0)
             injection ea_ with ea_ en_ ec_
             subst ea_
             subst ec_
             clear en_
             refine start_ (n := 41) (S := fun w' => w'.cell? ⟨gb396, 0, none⟩ = some (.string a0_0) ∧ w'.cell? ⟨gb396, 1, none⟩ = some (.string a0_1) ∧ w'.cell? ⟨gb396, 2, none⟩ = some (.int .i64 a0_2) ∧ w'.cell? (ad397.add ((x5_1).toNat * 2)) = some (.slice A397_0 ((rd_T43 l1 x5_1).f0).length c397_0) ∧ w'.cell? ⟨(ad397.add ((x5_1).toNat * 2)).block, (ad397.add ((x5_1).toNat * 2)).off + 1, none⟩ = some (.int .i64 ((rd_T43 l1 x5_1).f1)) ∧ w'.cell? (ad397.add ((x5_1).toNat * 2)) = some (.slice A397_0 ((rd_T43 l1 x5_1).f0).length c397_0) ∧ w'.cell? ⟨(ad397.add ((x5_1).toNat * 2)).block, (ad397.add ((x5_1).toNat * 2)).off + 1, none⟩ = some (.int .i64 ((rd_T43 l1 x5_1).f1)) ∧ w'.cell? (ad397.add (((ji13)).toNat * 2)) = some (.slice A399_0 ((rd_T43 l1 (ji13)).f0).length c399_0) ∧ w'.cell? ⟨(ad397.add (((ji13)).toNat * 2)).block, (ad397.add (((ji13)).toNat * 2)).off + 1, none⟩ = some (.int .i64 ((rd_T43 l1 (ji13)).f1)) ∧ w'.cell? (ad397.add ((x5_1).toNat * 2)) = some (.slice A397_0 ((rd_T43 l1 x5_1).f0).length c397_0) ∧ w'.cell? ⟨(ad397.add ((x5_1).toNat * 2)).block, (ad397.add ((x5_1).toNat * 2)).off + 1, none⟩ = some (.int .i64 ((rd_T43 l1 x5_1).f1))) (ds := []) #[false, false, false, false, false, false, false, false, false, false, false, false, false, false, false, false, false, false, false, false, false, false, false, false, false, false, false, false, false, false, false, false, false, false, false, false, false, false, false, false, false] (by kernel_rfl) rfl rfl ⟨(blk_cell BK396.out 0).trans rfl, (blk_cell BK396.out 1).trans rfl, (blk_cell BK396.out 2).trans rfl, ((HB.out.cell (World.block_lt_of_cell? w _ hw397_0)).trans hw397_0), ((HB.out.cell (World.block_lt_of_cell? w _ hw397_1)).trans hw397_1), ((HB.out.cell (World.block_lt_of_cell? w _ hw398_0)).trans hw398_0), ((HB.out.cell (World.block_lt_of_cell? w _ hw398_1)).trans hw398_1), ((HB.out.cell (World.block_lt_of_cell? w _ hw399_0)).trans hw399_0), ((HB.out.cell (World.block_lt_of_cell? w _ hw399_1)).trans hw399_1), ((HB.out.cell (World.block_lt_of_cell? w _ hw400_0)).trans hw400_0), ((HB.out.cell (World.block_lt_of_cell? w _ hw400_1)).trans hw400_1)⟩ (fun hHeld => ?_); refine with_tabW erasureref35_Valid.tab4 erasureref35_Valid.bits4 (fun HT_ HW_ => ?_)
             generalize wr.drew = w18 at BK396 HB HR397_0 HR398_0 HR399_0 HR400_0 hx397_0 hx397_1 hx398_0 hx398_1 hx399_0 hx399_1 hx400_0 hx400_1 hHeld ⊢
             refine pu (i := 0) (N := some 12) (bl 41 1) (any_of HT_.out (by kernel_rfl)) ?_
             refine ta (i := 1) (N := some 13) (bl 41 3) (take_ofW HT_.out HW_.out (by kernel_rfl)) hHeld ?_
             refine pu (i := 2) (N := some 14) (bl 41 7) (any_of HT_.out (by kernel_rfl)) ?_
             refine pu (i := 3) (N := some 15) (bl 41 15) (any_of HT_.out (by kernel_rfl)) ?_
             refine pu (i := 4) (N := some 16) (bl 41 31) (any_of HT_.out (by kernel_rfl)) ?_
             refine pu (i := 5) (N := some 17) (bl 41 63) (any_of HT_.out (by kernel_rfl)) ?_
             refine pu (i := 6) (N := some 18) (bl 41 127) (any_of HT_.out (by kernel_rfl)) ?_
             refine pu (i := 7) (N := some 19) (bl 41 255) (any_of HT_.out (by kernel_rfl)) ?_
             refine ta (i := 8) (N := some 20) (bl 41 511) (take_ofW HT_.out HW_.out (by kernel_rfl)) hHeld ?_
             refine pu (i := 9) (N := some 21) (bl 41 1023) (any_of HT_.out (by kernel_rfl)) ?_
             refine pu (i := 10) (N := some 22) (bl 41 2047) (any_of HT_.out (by kernel_rfl)) ?_
             refine pu (i := 11) (N := some 23) (bl 41 4095) (any_of HT_.out (by kernel_rfl)) ?_
             refine pu (i := 12) (N := some 24) (bl 41 8191) (any_of HT_.out (by kernel_rfl)) ?_
             refine pu (i := 13) (N := some 25) (bl 41 16383) (any_of HT_.out (by kernel_rfl)) ?_
             refine pu (i := 14) (N := some 26) (bl 41 32767) (any_of HT_.out (by kernel_rfl)) ?_
             refine pu (i := 15) (N := some 27) (bl 41 65535) (any_of HT_.out (by kernel_rfl)) ?_
             refine pu (i := 17) (N := some 29) (bl 41 196607) (any_of HT_.out (by kernel_rfl)) ?_
             refine ta (i := 16) (N := some 28) (bl 41 262143) (take_ofW HT_.out HW_.out (by kernel_rfl)) hHeld ?_
             refine ta (i := 18) (N := some 30) (bl 41 524287) (take_ofW HT_.out HW_.out (by kernel_rfl)) hHeld ?_
             refine pu (i := 19) (N := some 31) (bl 41 1048575) (any_of HT_.out (by kernel_rfl)) ?_
             refine pu (i := 20) (N := some 32) (bl 41 2097151) (any_of HT_.out (by kernel_rfl)) ?_
             refine pu (i := 21) (N := some 33) (bl 41 4194303) (any_of HT_.out (by kernel_rfl)) ?_
             refine pu (i := 22) (N := some 34) (bl 41 8388607) (any_of HT_.out (by kernel_rfl)) ?_
             refine pu (i := 23) (N := some 35) (bl 41 16777215) (any_of HT_.out (by kernel_rfl)) ?_
             refine pu (i := 24) (N := some 36) (bl 41 33554431) (any_of HT_.out (by kernel_rfl)) ?_
             refine pu (i := 25) (N := some 37) (bl 41 67108863) (any_of HT_.out (by kernel_rfl)) ?_
             refine pu (i := 26) (N := some 38) (bl 41 134217727) (any_of HT_.out (by kernel_rfl)) ?_
             refine pu (i := 27) (N := some 39) (bl 41 268435455) (any_of HT_.out (by kernel_rfl)) ?_
             refine pu (i := 28) (N := some 40) (bl 41 536870911) (any_of HT_.out (by kernel_rfl)) ?_
             refine pu (i := 29) (N := some 41) (bl 41 1073741823) (any_of HT_.out (by kernel_rfl)) ?_
             refine pu (i := 30) (N := some 42) (bl 41 2147483647) (any_of HT_.out (by kernel_rfl)) ?_
             refine pu (i := 32) (N := some 44) (bl 41 6442450943) (any_of HT_.out (by kernel_rfl)) ?_
             refine pu (i := 33) (N := some 45) (bl 41 15032385535) (any_of HT_.out (by kernel_rfl)) ?_
             refine pu (i := 34) (N := some 46) (bl 41 32212254719) (any_of HT_.out (by kernel_rfl)) ?_
             refine pu (i := 35) (N := some 47) (bl 41 66571993087) (any_of HT_.out (by kernel_rfl)) ?_
             refine ta (i := 31) (N := some 43) (bl 41 68719476735) (take_ofW HT_.out HW_.out (by kernel_rfl)) hHeld ?_
             refine ta (i := 36) (N := some 48) (bl 41 137438953471) (take_ofW HT_.out HW_.out (by kernel_rfl)) hHeld ?_
             refine one_ (i := 37) (N := some 49) (bl 41 274877906943) rfl rfl (one_of HT_.out (by kernel_rfl)) (by decide) (fun K hK => ?_)
             refine goes_ Try.func42 (by kernel_rfl) rfl #[.slice A399_0 ((rd_T43 l1 (ji13)).f0).length c399_0, .slice A397_0 ((rd_T43 l1 x5_1).f0).length c397_0] (by rfl) rfl rfl (by (try simp only [List.map_toArray, List.map_cons, List.map_nil]); first | done | (simp only [hji13]; rfl) | rfl | (simp only [List.length_drop, List.length_take]; rfl)) ?_
             with_reducible refine (erasureref01_CompareRows.calls k1 _ _ ((rd_T43 l1 (ji13)).f0) _ _ ((rd_T43 l1 x5_1).f0) t401 _ ?side1 ?side2 ?side3 ?side4 A16.out).mono ?_
             (case side1 => repeat (first | exact (Kd.C_below HR399_0.out HB.out) | (with_reducible refine Kd.C_alloc ?_ _) | (with_reducible refine Kd.C_drewN ?_ _) | (with_reducible refine Kd.C_drew ?_)))
             (case side2 => exact HC399_0.out)
             (case side3 => repeat (first | exact (Kd.C_below HR400_0.out HB.out) | (with_reducible refine Kd.C_alloc ?_ _) | (with_reducible refine Kd.C_drewN ?_ _) | (with_reducible refine Kd.C_drew ?_)))
             (case side4 => exact HC400_0.out)
             rintro e w19 ⟨rfl, hb⟩
             refine ⟨_, rfl, ?_⟩
             have n0_ := Aside0.mk (blk_below (g := gb396) (o := .cells #[.string a0_0, .string a0_1, .int .i64 a0_2] 23 (0, 0)) (by (with_reducible repeat (first | refine blk_drewN ?_ _ | refine blk_drew ?_ | refine blk_alloc ?_ _)); exact BK396.out) hb)
             have n1_ := Aside0.mk (below_step (by repeat (first | (with_reducible first | exact HB.out | apply below_alloc | apply pw_below_drewN | apply below_drew1 | refine below_set ?_ GE396.out) | exact HB.out)) hb)
             clear BK396
             clear HB
             have BK396 := n0_
             have HB := n1_
             clear n0_ n1_
             (try clear hb)
             (try clear hb2)
             (try clear hk)
             (try clear hi)
             refine hK.out _ _ ⟨(blk_cell BK396.out 0).trans rfl, (blk_cell BK396.out 1).trans rfl, (blk_cell BK396.out 2).trans rfl, ((HB.out.cell (World.block_lt_of_cell? w _ hw397_0)).trans hw397_0), ((HB.out.cell (World.block_lt_of_cell? w _ hw397_1)).trans hw397_1), ((HB.out.cell (World.block_lt_of_cell? w _ hw398_0)).trans hw398_0), ((HB.out.cell (World.block_lt_of_cell? w _ hw398_1)).trans hw398_1), ((HB.out.cell (World.block_lt_of_cell? w _ hw399_0)).trans hw399_0), ((HB.out.cell (World.block_lt_of_cell? w _ hw399_1)).trans hw399_1), ((HB.out.cell (World.block_lt_of_cell? w _ hw400_0)).trans hw400_0), ((HB.out.cell (World.block_lt_of_cell? w _ hw400_1)).trans hw400_1)⟩ (fun hHeld => ?_)
             clear hK K
             refine norm_ (a' := ?_) ?_ ?_
             rotate_left
             ·show Act.put _ (some 49) _ = _
              simp only [Act.put, List.setIfInBounds_toArray, List.set_cons_zero, List.set_cons_succ, i64_w, i32_w]
              rfl
             refine pu (i := 38) (N := some 50) (bl 41 549755813887) (any_of HT_.out (by kernel_rfl)) ?_
             refine pu (i := 39) (N := some 51) (bl 41 1099511627775) (any_of HT_.out (by kernel_rfl)) ?_
             refine pu (i := 40) (N := some 52) (bl 41 2199023255551) (any_of HT_.out (by kernel_rfl)) ?_
             refine done_ (done_of HT_.out (by kernel_rfl)) ?_
             try go_wp2
             go_ret
             exact ⟨by first | rfl | (simp [errW_none, errW_some] <;> rfl) | (simp only [← hji13]; first | rfl | (simp [errW_none, errW_some] <;> rfl)) | (simp [*, errW_none, errW_some] <;> rfl), by repeat (first | (with_reducible first | exact HB.out | apply below_alloc | apply pw_below_drewN | apply below_drew1 | refine below_set ?_ GE396.out) | exact HB.out)⟩
            ·rw [if_neg c17] at H
             have c17b0 : decide (0 ≤ t401) = false := decide_eq_false c17
             clear c17
             have H' := Aside0.mk H
             clear H
             try go_wp2
             have n0_ := Aside0.mk (blk_drew BK396.out)
             have n1_ := Aside0.mk (below_drew1 HB.out)
             clear BK396
             clear HB
             have BK396 := n0_
             have HB := n1_
             clear n0_ n1_
             have p397 : 0 ≤ (x5_1 : Int) := of_decide_eq_true (by first | (with_reducible assumption) | assumption)
             have q397 : x5_1 < (l1.length : Int) := of_decide_eq_true (by first | (with_reducible assumption) | assumption)
             obtain ⟨ad397, A397_0, c397_0, e397, hx397_0, hx397_1, hl397_0, hi397_0⟩ := at_T43 HR1.out x5_1 p397 q397
             have hw397_1 := hx397_1
             have hw397_0 := hx397_0
             cases e397
             replace hx397_0 := (HB.out.cell (World.block_lt_of_cell? w _ hx397_0)).trans hx397_0
             replace hx397_1 := (HB.out.cell (World.block_lt_of_cell? w _ hx397_1)).trans hx397_1
             have HR397_0 := Aside0.mk hi397_0
             have HC397_0 := Aside0.mk hl397_0
             clear hi397_0 hl397_0
             replace p397 := eq_true p397
             replace q397 := eq_true q397
             have p398 : 0 ≤ (x5_1 : Int) := of_decide_eq_true (by first | (with_reducible assumption) | assumption)
             have q398 : x5_1 < (l1.length : Int) := of_decide_eq_true (by first | (with_reducible assumption) | assumption)
             obtain ⟨ad398, A398_0, c398_0, e398, hx398_0, hx398_1, hl398_0, hi398_0⟩ := at_T43 HR1.out x5_1 p398 q398
             have hw398_1 := hx398_1
             have hw398_0 := hx398_0
             obtain rfl : ad397 = ad398 := (by injection e398)
             replace hx398_0 := (HB.out.cell (World.block_lt_of_cell? w _ hx398_0)).trans hx398_0
             replace hx398_1 := (HB.out.cell (World.block_lt_of_cell? w _ hx398_1)).trans hx398_1
             have HR398_0 := Aside0.mk hi398_0
             have HC398_0 := Aside0.mk hl398_0
             clear hi398_0 hl398_0
             replace p398 := eq_true p398
             replace q398 := eq_true q398
             have ea_ := Option.some.inj (hx397_0.symm.trans hx398_0)
             injection ea_ with ea_ en_ ec_
             subst ea_
             subst ec_
             clear en_
             have p399 : 0 ≤ ((ji13) : Int) := of_decide_eq_true (by first | (with_reducible assumption) | assumption)
             have q399 : (ji13) < (l1.length : Int) := of_decide_eq_true (by first | (with_reducible assumption) | assumption)
             obtain ⟨ad399, A399_0, c399_0, e399, hx399_0, hx399_1, hl399_0, hi399_0⟩ := at_T43 HR1.out (ji13) p399 q399
             have hw399_1 := hx399_1
             have hw399_0 := hx399_0
             obtain rfl : ad397 = ad399 := (by injection e399)
             replace hx399_0 := (HB.out.cell (World.block_lt_of_cell? w _ hx399_0)).trans hx399_0
             replace hx399_1 := (HB.out.cell (World.block_lt_of_cell? w _ hx399_1)).trans hx399_1
             have HR399_0 := Aside0.mk hi399_0
             have HC399_0 := Aside0.mk hl399_0
             clear hi399_0 hl399_0
             replace p399 := eq_true p399
             replace q399 := eq_true q399
             have p400 : 0 ≤ (x5_1 : Int) := of_decide_eq_true (by first | (with_reducible assumption) | assumption)
             have q400 : x5_1 < (l1.length : Int) := of_decide_eq_true (by first | (with_reducible assumption) | assumption)
             obtain ⟨ad400, A400_0, c400_0, e400, hx400_0, hx400_1, hl400_0, hi400_0⟩ := at_T43 HR1.out x5_1 p400 q400
             have hw400_1 := hx400_1
             have hw400_0 := hx400_0
             obtain rfl : ad397 = ad400 := (by injection e400)
             replace hx400_0 := (HB.out.cell (World.block_lt_of_cell? w _ hx400_0)).trans hx400_0
             replace hx400_1 := (HB.out.cell (World.block_lt_of_cell? w _ hx400_1)).trans hx400_1
             have HR400_0 := Aside0.mk hi400_0
             have HC400_0 := Aside0.mk hl400_0
             clear hi400_0 hl400_0
             replace p400 := eq_true p400
             replace q400 := eq_true q400
             have ea_ := Option.some.inj (hx397_0.symm.trans hx400_0)
             injection ea_ with ea_ en_ ec_
             subst ea_
             subst ec_
             clear en_
             refine start_ (n := 41) (S := fun w' => w'.cell? ⟨gb396, 0, none⟩ = some (.string a0_0) ∧ w'.cell? ⟨gb396, 1, none⟩ = some (.string a0_1) ∧ w'.cell? ⟨gb396, 2, none⟩ = some (.int .i64 a0_2) ∧ w'.cell? (ad397.add ((x5_1).toNat * 2)) = some (.slice A397_0 ((rd_T43 l1 x5_1).f0).length c397_0) ∧ w'.cell? ⟨(ad397.add ((x5_1).toNat * 2)).block, (ad397.add ((x5_1).toNat * 2)).off + 1, none⟩ = some (.int .i64 ((rd_T43 l1 x5_1).f1)) ∧ w'.cell? (ad397.add ((x5_1).toNat * 2)) = some (.slice A397_0 ((rd_T43 l1 x5_1).f0).length c397_0) ∧ w'.cell? ⟨(ad397.add ((x5_1).toNat * 2)).block, (ad397.add ((x5_1).toNat * 2)).off + 1, none⟩ = some (.int .i64 ((rd_T43 l1 x5_1).f1)) ∧ w'.cell? (ad397.add (((ji13)).toNat * 2)) = some (.slice A399_0 ((rd_T43 l1 (ji13)).f0).length c399_0) ∧ w'.cell? ⟨(ad397.add (((ji13)).toNat * 2)).block, (ad397.add (((ji13)).toNat * 2)).off + 1, none⟩ = some (.int .i64 ((rd_T43 l1 (ji13)).f1)) ∧ w'.cell? (ad397.add ((x5_1).toNat * 2)) = some (.slice A397_0 ((rd_T43 l1 x5_1).f0).length c397_0) ∧ w'.cell? ⟨(ad397.add ((x5_1).toNat * 2)).block, (ad397.add ((x5_1).toNat * 2)).off + 1, none⟩ = some (.int .i64 ((rd_T43 l1 x5_1).f1))) (ds := []) #[false, false, false, false, false, false, false, false, false, false, false, false, false, false, false, false, false, false, false, false, false, false, false, false, false, false, false, false, false, false, false, false, false, false, false, false, false, false, false, false, false] (by kernel_rfl) rfl rfl ⟨(blk_cell BK396.out 0).trans rfl, (blk_cell BK396.out 1).trans rfl, (blk_cell BK396.out 2).trans rfl, ((HB.out.cell (World.block_lt_of_cell? w _ hw397_0)).trans hw397_0), ((HB.out.cell (World.block_lt_of_cell? w _ hw397_1)).trans hw397_1), ((HB.out.cell (World.block_lt_of_cell? w _ hw398_0)).trans hw398_0), ((HB.out.cell (World.block_lt_of_cell? w _ hw398_1)).trans hw398_1), ((HB.out.cell (World.block_lt_of_cell? w _ hw399_0)).trans hw399_0), ((HB.out.cell (World.block_lt_of_cell? w _ hw399_1)).trans hw399_1), ((HB.out.cell (World.block_lt_of_cell? w _ hw400_0)).trans hw400_0), ((HB.out.cell (World.block_lt_of_cell? w _ hw400_1)).trans hw400_1)⟩ (fun hHeld => ?_); refine with_tabW erasureref35_Valid.tab4 erasureref35_Valid.bits4 (fun HT_ HW_ => ?_)
             generalize wr.drew = w20 at BK396 HB HR397_0 HR398_0 HR399_0 HR400_0 hx397_0 hx397_1 hx398_0 hx398_1 hx399_0 hx399_1 hx400_0 hx400_1 hHeld ⊢
             refine pu (i := 0) (N := some 12) (bl 41 1) (any_of HT_.out (by kernel_rfl)) ?_
             refine ta (i := 1) (N := some 13) (bl 41 3) (take_ofW HT_.out HW_.out (by kernel_rfl)) hHeld ?_
             refine pu (i := 2) (N := some 14) (bl 41 7) (any_of HT_.out (by kernel_rfl)) ?_
             refine pu (i := 3) (N := some 15) (bl 41 15) (any_of HT_.out (by kernel_rfl)) ?_
             refine pu (i := 4) (N := some 16) (bl 41 31) (any_of HT_.out (by kernel_rfl)) ?_
             refine pu (i := 5) (N := some 17) (bl 41 63) (any_of HT_.out (by kernel_rfl)) ?_
             refine pu (i := 6) (N := some 18) (bl 41 127) (any_of HT_.out (by kernel_rfl)) ?_
             refine pu (i := 7) (N := some 19) (bl 41 255) (any_of HT_.out (by kernel_rfl)) ?_
             refine ta (i := 8) (N := some 20) (bl 41 511) (take_ofW HT_.out HW_.out (by kernel_rfl)) hHeld ?_
             refine pu (i := 9) (N := some 21) (bl 41 1023) (any_of HT_.out (by kernel_rfl)) ?_
             refine pu (i := 10) (N := some 22) (bl 41 2047) (any_of HT_.out (by kernel_rfl)) ?_
             refine pu (i := 11) (N := some 23) (bl 41 4095) (any_of HT_.out (by kernel_rfl)) ?_
             refine pu (i := 12) (N := some 24) (bl 41 8191) (any_of HT_.out (by kernel_rfl)) ?_
             refine pu (i := 13) (N := some 25) (bl 41 16383) (any_of HT_.out (by kernel_rfl)) ?_
             refine pu (i := 14) (N := some 26) (bl 41 32767) (any_of HT_.out (by kernel_rfl)) ?_
             refine pu (i := 15) (N := some 27) (bl 41 65535) (any_of HT_.out (by kernel_rfl)) ?_
             refine pu (i := 17) (N := some 29) (bl 41 196607) (any_of HT_.out (by kernel_rfl)) ?_
             refine ta (i := 16) (N := some 28) (bl 41 262143) (take_ofW HT_.out HW_.out (by kernel_rfl)) hHeld ?_
             refine ta (i := 18) (N := some 30) (bl 41 524287) (take_ofW HT_.out HW_.out (by kernel_rfl)) hHeld ?_
             refine pu (i := 19) (N := some 31) (bl 41 1048575) (any_of HT_.out (by kernel_rfl)) ?_
             refine pu (i := 20) (N := some 32) (bl 41 2097151) (any_of HT_.out (by kernel_rfl)) ?_
             refine pu (i := 21) (N := some 33) (bl 41 4194303) (any_of HT_.out (by kernel_rfl)) ?_
             refine pu (i := 22) (N := some 34) (bl 41 8388607) (any_of HT_.out (by kernel_rfl)) ?_
             refine pu (i := 23) (N := some 35) (bl 41 16777215) (any_of HT_.out (by kernel_rfl)) ?_
             refine pu (i := 24) (N := some 36) (bl 41 33554431) (any_of HT_.out (by kernel_rfl)) ?_
             refine pu (i := 25) (N := some 37) (bl 41 67108863) (any_of HT_.out (by kernel_rfl)) ?_
             refine pu (i := 26) (N := some 38) (bl 41 134217727) (any_of HT_.out (by kernel_rfl)) ?_
             refine pu (i := 27) (N := some 39) (bl 41 268435455) (any_of HT_.out (by kernel_rfl)) ?_
             refine pu (i := 28) (N := some 40) (bl 41 536870911) (any_of HT_.out (by kernel_rfl)) ?_
             refine pu (i := 29) (N := some 41) (bl 41 1073741823) (any_of HT_.out (by kernel_rfl)) ?_
             refine pu (i := 30) (N := some 42) (bl 41 2147483647) (any_of HT_.out (by kernel_rfl)) ?_
             refine pu (i := 32) (N := some 44) (bl 41 6442450943) (any_of HT_.out (by kernel_rfl)) ?_
             refine pu (i := 33) (N := some 45) (bl 41 15032385535) (any_of HT_.out (by kernel_rfl)) ?_
             refine pu (i := 34) (N := some 46) (bl 41 32212254719) (any_of HT_.out (by kernel_rfl)) ?_
             refine pu (i := 35) (N := some 47) (bl 41 66571993087) (any_of HT_.out (by kernel_rfl)) ?_
             refine ta (i := 31) (N := some 43) (bl 41 68719476735) (take_ofW HT_.out HW_.out (by kernel_rfl)) hHeld ?_
             refine ta (i := 36) (N := some 48) (bl 41 137438953471) (take_ofW HT_.out HW_.out (by kernel_rfl)) hHeld ?_
             refine one_ (i := 37) (N := some 49) (bl 41 274877906943) rfl rfl (one_of HT_.out (by kernel_rfl)) (by decide) (fun K hK => ?_)
             refine goes_ Try.func42 (by kernel_rfl) rfl #[.slice A399_0 ((rd_T43 l1 (ji13)).f0).length c399_0, .slice A397_0 ((rd_T43 l1 x5_1).f0).length c397_0] (by rfl) rfl rfl (by (try simp only [List.map_toArray, List.map_cons, List.map_nil]); first | done | (simp only [hji13]; rfl) | rfl | (simp only [List.length_drop, List.length_take]; rfl)) ?_
             with_reducible refine (erasureref01_CompareRows.calls k1 _ _ ((rd_T43 l1 (ji13)).f0) _ _ ((rd_T43 l1 x5_1).f0) t401 _ ?side1 ?side2 ?side3 ?side4 A16.out).mono ?_
             (case side1 => repeat (first | exact (Kd.C_below HR399_0.out HB.out) | (with_reducible refine Kd.C_alloc ?_ _) | (with_reducible refine Kd.C_drewN ?_ _) | (with_reducible refine Kd.C_drew ?_)))
             (case side2 => exact HC399_0.out)
             (case side3 => repeat (first | exact (Kd.C_below HR400_0.out HB.out) | (with_reducible refine Kd.C_alloc ?_ _) | (with_reducible refine Kd.C_drewN ?_ _) | (with_reducible refine Kd.C_drew ?_)))
             (case side4 => exact HC400_0.out)
             rintro e w21 ⟨rfl, hb⟩
             refine ⟨_, rfl, ?_⟩
             have n0_ := Aside0.mk (blk_below (g := gb396) (o := .cells #[.string a0_0, .string a0_1, .int .i64 a0_2] 23 (0, 0)) (by (with_reducible repeat (first | refine blk_drewN ?_ _ | refine blk_drew ?_ | refine blk_alloc ?_ _)); exact BK396.out) hb)
             have n1_ := Aside0.mk (below_step (by repeat (first | (with_reducible first | exact HB.out | apply below_alloc | apply pw_below_drewN | apply below_drew1 | refine below_set ?_ GE396.out) | exact HB.out)) hb)
             clear BK396
             clear HB
             have BK396 := n0_
             have HB := n1_
             clear n0_ n1_
             (try clear hb)
             (try clear hb2)
             (try clear hk)
             (try clear hi)
             refine hK.out _ _ ⟨(blk_cell BK396.out 0).trans rfl, (blk_cell BK396.out 1).trans rfl, (blk_cell BK396.out 2).trans rfl, ((HB.out.cell (World.block_lt_of_cell? w _ hw397_0)).trans hw397_0), ((HB.out.cell (World.block_lt_of_cell? w _ hw397_1)).trans hw397_1), ((HB.out.cell (World.block_lt_of_cell? w _ hw398_0)).trans hw398_0), ((HB.out.cell (World.block_lt_of_cell? w _ hw398_1)).trans hw398_1), ((HB.out.cell (World.block_lt_of_cell? w _ hw399_0)).trans hw399_0), ((HB.out.cell (World.block_lt_of_cell? w _ hw399_1)).trans hw399_1), ((HB.out.cell (World.block_lt_of_cell? w _ hw400_0)).trans hw400_0), ((HB.out.cell (World.block_lt_of_cell? w _ hw400_1)).trans hw400_1)⟩ (fun hHeld => ?_)
             clear hK K
             refine norm_ (a' := ?_) ?_ ?_
             rotate_left
             ·show Act.put _ (some 49) _ = _
              simp only [Act.put, List.setIfInBounds_toArray, List.set_cons_zero, List.set_cons_succ, i64_w, i32_w]
              rfl
             refine pu (i := 38) (N := some 50) (bl 41 549755813887) (any_of HT_.out (by kernel_rfl)) ?_
             refine pu (i := 39) (N := some 51) (bl 41 1099511627775) (any_of HT_.out (by kernel_rfl)) ?_
             refine pu (i := 40) (N := some 52) (bl 41 2199023255551) (any_of HT_.out (by kernel_rfl)) ?_
             refine done_ (done_of HT_.out (by kernel_rfl)) ?_
             try go_wp2
             go_roundg k1
             case measure => have := HK1.out; omega
             case rel => exact ⟨(wrap64 (x5_1 + 1)), (by first | rfl | (simp; done) | (simp [*]; done)), H', ⟨by have := HK1.out; omega⟩, ⟨by (with_reducible repeat (first | refine blk_drewN ?_ _ | refine blk_drew ?_ | refine blk_alloc ?_ _)); exact BK396.out⟩, ⟨by repeat (first | (with_reducible first | exact HB.out | apply below_alloc | apply pw_below_drewN | apply below_drew1 | refine below_set ?_ GE396.out) | exact HB.out)⟩⟩
           ·rw [if_neg c15] at H
            exact absurd H (by simp)
          ·rw [if_neg c14] at H
           exact absurd H (by simp)
         ·rw [if_neg c12] at H
          have c12b0 : decide (0 < x5_1) = false := decide_eq_false c12
          clear c12
          have H' := Aside0.mk H
          clear H
          try go_wp2
          have n0_ := Aside0.mk (blk_drew BK396.out)
          have n1_ := Aside0.mk (below_drew1 HB.out)
          clear BK396
          clear HB
          have BK396 := n0_
          have HB := n1_
          clear n0_ n1_
          have p397 : 0 ≤ (x5_1 : Int) := of_decide_eq_true (by first | (with_reducible assumption) | assumption)
          have q397 : x5_1 < (l1.length : Int) := of_decide_eq_true (by first | (with_reducible assumption) | assumption)
          obtain ⟨ad397, A397_0, c397_0, e397, hx397_0, hx397_1, hl397_0, hi397_0⟩ := at_T43 HR1.out x5_1 p397 q397
          have hw397_1 := hx397_1
          have hw397_0 := hx397_0
          cases e397
          replace hx397_0 := (HB.out.cell (World.block_lt_of_cell? w _ hx397_0)).trans hx397_0
          replace hx397_1 := (HB.out.cell (World.block_lt_of_cell? w _ hx397_1)).trans hx397_1
          have HR397_0 := Aside0.mk hi397_0
          have HC397_0 := Aside0.mk hl397_0
          clear hi397_0 hl397_0
          replace p397 := eq_true p397
          replace q397 := eq_true q397
          have p398 : 0 ≤ (x5_1 : Int) := of_decide_eq_true (by first | (with_reducible assumption) | assumption)
          have q398 : x5_1 < (l1.length : Int) := of_decide_eq_true (by first | (with_reducible assumption) | assumption)
          obtain ⟨ad398, A398_0, c398_0, e398, hx398_0, hx398_1, hl398_0, hi398_0⟩ := at_T43 HR1.out x5_1 p398 q398
          have hw398_1 := hx398_1
          have hw398_0 := hx398_0
          obtain rfl : ad397 = ad398 := (by injection e398)
          replace hx398_0 := (HB.out.cell (World.block_lt_of_cell? w _ hx398_0)).trans hx398_0
          replace hx398_1 := (HB.out.cell (World.block_lt_of_cell? w _ hx398_1)).trans hx398_1
          have HR398_0 := Aside0.mk hi398_0
          have HC398_0 := Aside0.mk hl398_0
          clear hi398_0 hl398_0
          replace p398 := eq_true p398
          replace q398 := eq_true q398
          have ea_ := Option.some.inj (hx397_0.symm.trans hx398_0)
          injection ea_ with ea_ en_ ec_
          subst ea_
          subst ec_
          clear en_
          refine start_ (n := 41) (S := fun w' => w'.cell? ⟨gb396, 0, none⟩ = some (.string a0_0) ∧ w'.cell? ⟨gb396, 1, none⟩ = some (.string a0_1) ∧ w'.cell? ⟨gb396, 2, none⟩ = some (.int .i64 a0_2) ∧ w'.cell? (ad397.add ((x5_1).toNat * 2)) = some (.slice A397_0 ((rd_T43 l1 x5_1).f0).length c397_0) ∧ w'.cell? ⟨(ad397.add ((x5_1).toNat * 2)).block, (ad397.add ((x5_1).toNat * 2)).off + 1, none⟩ = some (.int .i64 ((rd_T43 l1 x5_1).f1)) ∧ w'.cell? (ad397.add ((x5_1).toNat * 2)) = some (.slice A397_0 ((rd_T43 l1 x5_1).f0).length c397_0) ∧ w'.cell? ⟨(ad397.add ((x5_1).toNat * 2)).block, (ad397.add ((x5_1).toNat * 2)).off + 1, none⟩ = some (.int .i64 ((rd_T43 l1 x5_1).f1))) (ds := []) #[false, false, false, false, false, false, false, false, false, false, false, false, false, false, false, false, false, false, false, false, false, false, false, false, false, false, false, false, false, false, false, false, false, false, false, false, false, false, false, false, false] (by kernel_rfl) rfl rfl ⟨(blk_cell BK396.out 0).trans rfl, (blk_cell BK396.out 1).trans rfl, (blk_cell BK396.out 2).trans rfl, ((HB.out.cell (World.block_lt_of_cell? w _ hw397_0)).trans hw397_0), ((HB.out.cell (World.block_lt_of_cell? w _ hw397_1)).trans hw397_1), ((HB.out.cell (World.block_lt_of_cell? w _ hw398_0)).trans hw398_0), ((HB.out.cell (World.block_lt_of_cell? w _ hw398_1)).trans hw398_1)⟩ (fun hHeld => ?_); refine with_tabW erasureref35_Valid.tab4 erasureref35_Valid.bits4 (fun HT_ HW_ => ?_)
          generalize wr.drew = w22 at BK396 HB HR397_0 HR398_0 hx397_0 hx397_1 hx398_0 hx398_1 hHeld ⊢
          refine pu (i := 0) (N := some 12) (bl 41 1) (any_of HT_.out (by kernel_rfl)) ?_
          refine ta (i := 1) (N := some 13) (bl 41 3) (take_ofW HT_.out HW_.out (by kernel_rfl)) hHeld ?_
          refine pu (i := 2) (N := some 14) (bl 41 7) (any_of HT_.out (by kernel_rfl)) ?_
          refine pu (i := 3) (N := some 15) (bl 41 15) (any_of HT_.out (by kernel_rfl)) ?_
          refine pu (i := 4) (N := some 16) (bl 41 31) (any_of HT_.out (by kernel_rfl)) ?_
          refine pu (i := 5) (N := some 17) (bl 41 63) (any_of HT_.out (by kernel_rfl)) ?_
          refine pu (i := 6) (N := some 18) (bl 41 127) (any_of HT_.out (by kernel_rfl)) ?_
          refine pu (i := 7) (N := some 19) (bl 41 255) (any_of HT_.out (by kernel_rfl)) ?_
          refine ta (i := 8) (N := some 20) (bl 41 511) (take_ofW HT_.out HW_.out (by kernel_rfl)) hHeld ?_
          refine pu (i := 9) (N := some 21) (bl 41 1023) (any_of HT_.out (by kernel_rfl)) ?_
          refine pu (i := 10) (N := some 22) (bl 41 2047) (any_of HT_.out (by kernel_rfl)) ?_
          refine pu (i := 11) (N := some 23) (bl 41 4095) (any_of HT_.out (by kernel_rfl)) ?_
          refine pu (i := 12) (N := some 24) (bl 41 8191) (any_of HT_.out (by kernel_rfl)) ?_
          refine pu (i := 13) (N := some 25) (bl 41 16383) (any_of HT_.out (by kernel_rfl)) ?_
          refine pu (i := 14) (N := some 26) (bl 41 32767) (any_of HT_.out (by kernel_rfl)) ?_
          refine pu (i := 15) (N := some 27) (bl 41 65535) (any_of HT_.out (by kernel_rfl)) ?_
          refine pu (i := 17) (N := some 29) (bl 41 196607) (any_of HT_.out (by kernel_rfl)) ?_
          refine ta (i := 16) (N := some 28) (bl 41 262143) (take_ofW HT_.out HW_.out (by kernel_rfl)) hHeld ?_
          refine ta (i := 18) (N := some 30) (bl 41 524287) (take_ofW HT_.out HW_.out (by kernel_rfl)) hHeld ?_
          refine pu (i := 19) (N := some 31) (bl 41 1048575) (any_of HT_.out (by kernel_rfl)) ?_
          refine pu (i := 20) (N := some 32) (bl 41 2097151) (any_of HT_.out (by kernel_rfl)) ?_
          refine pu (i := 21) (N := some 33) (bl 41 4194303) (any_of HT_.out (by kernel_rfl)) ?_
          refine pu (i := 22) (N := some 34) (bl 41 8388607) (any_of HT_.out (by kernel_rfl)) ?_
          refine pu (i := 23) (N := some 35) (bl 41 16777215) (any_of HT_.out (by kernel_rfl)) ?_
          refine pu (i := 24) (N := some 36) (bl 41 33554431) (any_of HT_.out (by kernel_rfl)) ?_
          refine pu (i := 25) (N := some 37) (bl 41 67108863) (any_of HT_.out (by kernel_rfl)) ?_
          refine po (i := 26) (N := some 38) (bl 41 134217727) (any_of HT_.out (by kernel_rfl)) ?_
          refine po (i := 27) (N := some 39) (bl 41 268435455) (any_of HT_.out (by kernel_rfl)) ?_
          refine po (i := 28) (N := some 40) (bl 41 536870911) (any_of HT_.out (by kernel_rfl)) ?_
          refine po (i := 29) (N := some 41) (bl 41 1073741823) (any_of HT_.out (by kernel_rfl)) ?_
          refine po (i := 30) (N := some 42) (bl 41 2147483647) (any_of HT_.out (by kernel_rfl)) ?_
          refine po (i := 31) (N := some 43) (bl 41 4294967295) (any_of HT_.out (by kernel_rfl)) ?_
          refine po (i := 32) (N := some 44) (bl 41 8589934591) (any_of HT_.out (by kernel_rfl)) ?_
          refine po (i := 33) (N := some 45) (bl 41 17179869183) (any_of HT_.out (by kernel_rfl)) ?_
          refine po (i := 34) (N := some 46) (bl 41 34359738367) (any_of HT_.out (by kernel_rfl)) ?_
          refine po (i := 35) (N := some 47) (bl 41 68719476735) (any_of HT_.out (by kernel_rfl)) ?_
          refine po (i := 36) (N := some 48) (bl 41 137438953471) (any_of HT_.out (by kernel_rfl)) ?_
          refine po (i := 37) (N := some 49) (bl 41 274877906943) (any_of HT_.out (by kernel_rfl)) ?_
          refine po (i := 38) (N := some 50) (bl 41 549755813887) (any_of HT_.out (by kernel_rfl)) ?_
          refine pu (i := 39) (N := some 51) (bl 41 1099511627775) (any_of HT_.out (by kernel_rfl)) ?_
          refine pu (i := 40) (N := some 52) (bl 41 2199023255551) (any_of HT_.out (by kernel_rfl)) ?_
          refine done_ (done_of HT_.out (by kernel_rfl)) ?_
          try go_wp2
          go_roundg k1
          case measure => have := HK1.out; omega
          case rel => exact ⟨(wrap64 (x5_1 + 1)), (by first | rfl | (simp; done) | (simp [*]; done)), H', ⟨by have := HK1.out; omega⟩, ⟨by (with_reducible repeat (first | refine blk_drewN ?_ _ | refine blk_drew ?_ | refine blk_alloc ?_ _)); exact BK396.out⟩, ⟨by repeat (first | (with_reducible first | exact HB.out | apply below_alloc | apply pw_below_drewN | apply below_drew1 | refine below_set ?_ GE396.out) | exact HB.out)⟩⟩
        ·rw [if_neg c11] at H
         have c11b0 : ((Int.tmod ((rd_T43 l1 x5_1).f1) a0_2) == 0) = false := beq_eq_false_iff_ne.mpr c11
         have c11b1 : ((Int.tmod ((rd_T43 l1 x5_1).f1) a0_2) != 0) = true := bne_iff_ne.mpr c11
         obtain rfl := Option.some.inj H
         try go_wp2
         have n0_ := Aside0.mk (blk_drew BK396.out)
         have n1_ := Aside0.mk (below_drew1 HB.out)
         clear BK396
         clear HB
         have BK396 := n0_
         have HB := n1_
         clear n0_ n1_
         have p397 : 0 ≤ (x5_1 : Int) := of_decide_eq_true (by first | (with_reducible assumption) | assumption)
         have q397 : x5_1 < (l1.length : Int) := of_decide_eq_true (by first | (with_reducible assumption) | assumption)
         obtain ⟨ad397, A397_0, c397_0, e397, hx397_0, hx397_1, hl397_0, hi397_0⟩ := at_T43 HR1.out x5_1 p397 q397
         have hw397_1 := hx397_1
         have hw397_0 := hx397_0
         cases e397
         replace hx397_0 := (HB.out.cell (World.block_lt_of_cell? w _ hx397_0)).trans hx397_0
         replace hx397_1 := (HB.out.cell (World.block_lt_of_cell? w _ hx397_1)).trans hx397_1
         have HR397_0 := Aside0.mk hi397_0
         have HC397_0 := Aside0.mk hl397_0
         clear hi397_0 hl397_0
         replace p397 := eq_true p397
         replace q397 := eq_true q397
         have p398 : 0 ≤ (x5_1 : Int) := of_decide_eq_true (by first | (with_reducible assumption) | assumption)
         have q398 : x5_1 < (l1.length : Int) := of_decide_eq_true (by first | (with_reducible assumption) | assumption)
         obtain ⟨ad398, A398_0, c398_0, e398, hx398_0, hx398_1, hl398_0, hi398_0⟩ := at_T43 HR1.out x5_1 p398 q398
         have hw398_1 := hx398_1
         have hw398_0 := hx398_0
         obtain rfl : ad397 = ad398 := (by injection e398)
         replace hx398_0 := (HB.out.cell (World.block_lt_of_cell? w _ hx398_0)).trans hx398_0
         replace hx398_1 := (HB.out.cell (World.block_lt_of_cell? w _ hx398_1)).trans hx398_1
         have HR398_0 := Aside0.mk hi398_0
         have HC398_0 := Aside0.mk hl398_0
         clear hi398_0 hl398_0
         replace p398 := eq_true p398
         replace q398 := eq_true q398
         have ea_ := Option.some.inj (hx397_0.symm.trans hx398_0)
         injection ea_ with ea_ en_ ec_
         subst ea_
         subst ec_
         clear en_
         refine start_ (n := 41) (S := fun w' => w'.cell? ⟨gb396, 0, none⟩ = some (.string a0_0) ∧ w'.cell? ⟨gb396, 1, none⟩ = some (.string a0_1) ∧ w'.cell? ⟨gb396, 2, none⟩ = some (.int .i64 a0_2) ∧ w'.cell? (ad397.add ((x5_1).toNat * 2)) = some (.slice A397_0 ((rd_T43 l1 x5_1).f0).length c397_0) ∧ w'.cell? ⟨(ad397.add ((x5_1).toNat * 2)).block, (ad397.add ((x5_1).toNat * 2)).off + 1, none⟩ = some (.int .i64 ((rd_T43 l1 x5_1).f1)) ∧ w'.cell? (ad397.add ((x5_1).toNat * 2)) = some (.slice A397_0 ((rd_T43 l1 x5_1).f0).length c397_0) ∧ w'.cell? ⟨(ad397.add ((x5_1).toNat * 2)).block, (ad397.add ((x5_1).toNat * 2)).off + 1, none⟩ = some (.int .i64 ((rd_T43 l1 x5_1).f1))) (ds := []) #[false, false, false, false, false, false, false, false, false, false, false, false, false, false, false, false, false, false, false, false, false, false, false, false, false, false, false, false, false, false, false, false, false, false, false, false, false, false, false, false, false] (by kernel_rfl) rfl rfl ⟨(blk_cell BK396.out 0).trans rfl, (blk_cell BK396.out 1).trans rfl, (blk_cell BK396.out 2).trans rfl, ((HB.out.cell (World.block_lt_of_cell? w _ hw397_0)).trans hw397_0), ((HB.out.cell (World.block_lt_of_cell? w _ hw397_1)).trans hw397_1), ((HB.out.cell (World.block_lt_of_cell? w _ hw398_0)).trans hw398_0), ((HB.out.cell (World.block_lt_of_cell? w _ hw398_1)).trans hw398_1)⟩ (fun hHeld => ?_); refine with_tabW erasureref35_Valid.tab4 erasureref35_Valid.bits4 (fun HT_ HW_ => ?_)
         generalize wr.drew = w23 at BK396 HB HR397_0 HR398_0 hx397_0 hx397_1 hx398_0 hx398_1 hHeld ⊢
         refine pu (i := 0) (N := some 12) (bl 41 1) (any_of HT_.out (by kernel_rfl)) ?_
         refine ta (i := 1) (N := some 13) (bl 41 3) (take_ofW HT_.out HW_.out (by kernel_rfl)) hHeld ?_
         refine pu (i := 2) (N := some 14) (bl 41 7) (any_of HT_.out (by kernel_rfl)) ?_
         refine pu (i := 3) (N := some 15) (bl 41 15) (any_of HT_.out (by kernel_rfl)) ?_
         refine pu (i := 4) (N := some 16) (bl 41 31) (any_of HT_.out (by kernel_rfl)) ?_
         refine pu (i := 5) (N := some 17) (bl 41 63) (any_of HT_.out (by kernel_rfl)) ?_
         refine pu (i := 6) (N := some 18) (bl 41 127) (any_of HT_.out (by kernel_rfl)) ?_
         refine pu (i := 7) (N := some 19) (bl 41 255) (any_of HT_.out (by kernel_rfl)) ?_
         refine ta (i := 8) (N := some 20) (bl 41 511) (take_ofW HT_.out HW_.out (by kernel_rfl)) hHeld ?_
         refine pu (i := 9) (N := some 21) (bl 41 1023) (any_of HT_.out (by kernel_rfl)) ?_
         refine pu (i := 10) (N := some 22) (bl 41 2047) (any_of HT_.out (by kernel_rfl)) ?_
         refine pu (i := 11) (N := some 23) (bl 41 4095) (any_of HT_.out (by kernel_rfl)) ?_
         refine pu (i := 12) (N := some 24) (bl 41 8191) (any_of HT_.out (by kernel_rfl)) ?_
         refine pu (i := 13) (N := some 25) (bl 41 16383) (any_of HT_.out (by kernel_rfl)) ?_
         refine pu (i := 14) (N := some 26) (bl 41 32767) (any_of HT_.out (by kernel_rfl)) ?_
         refine pu (i := 15) (N := some 27) (bl 41 65535) (any_of HT_.out (by kernel_rfl)) ?_
         refine pu (i := 17) (N := some 29) (bl 41 196607) (any_of HT_.out (by kernel_rfl)) ?_
         refine ta (i := 16) (N := some 28) (bl 41 262143) (take_ofW HT_.out HW_.out (by kernel_rfl)) hHeld ?_
         refine ta (i := 18) (N := some 30) (bl 41 524287) (take_ofW HT_.out HW_.out (by kernel_rfl)) hHeld ?_
         refine pu (i := 19) (N := some 31) (bl 41 1048575) (any_of HT_.out (by kernel_rfl)) ?_
         refine pu (i := 20) (N := some 32) (bl 41 2097151) (any_of HT_.out (by kernel_rfl)) ?_
         refine pu (i := 21) (N := some 33) (bl 41 4194303) (any_of HT_.out (by kernel_rfl)) ?_
         refine pu (i := 22) (N := some 34) (bl 41 8388607) (any_of HT_.out (by kernel_rfl)) ?_
         refine po (i := 23) (N := some 35) (bl 41 16777215) (any_of HT_.out (by kernel_rfl)) ?_
         refine po (i := 24) (N := some 36) (bl 41 33554431) (any_of HT_.out (by kernel_rfl)) ?_
         refine po (i := 25) (N := some 37) (bl 41 67108863) (any_of HT_.out (by kernel_rfl)) ?_
         refine po (i := 26) (N := some 38) (bl 41 134217727) (any_of HT_.out (by kernel_rfl)) ?_
         refine po (i := 27) (N := some 39) (bl 41 268435455) (any_of HT_.out (by kernel_rfl)) ?_
         refine po (i := 28) (N := some 40) (bl 41 536870911) (any_of HT_.out (by kernel_rfl)) ?_
         refine po (i := 29) (N := some 41) (bl 41 1073741823) (any_of HT_.out (by kernel_rfl)) ?_
         refine po (i := 30) (N := some 42) (bl 41 2147483647) (any_of HT_.out (by kernel_rfl)) ?_
         refine po (i := 31) (N := some 43) (bl 41 4294967295) (any_of HT_.out (by kernel_rfl)) ?_
         refine po (i := 32) (N := some 44) (bl 41 8589934591) (any_of HT_.out (by kernel_rfl)) ?_
         refine po (i := 33) (N := some 45) (bl 41 17179869183) (any_of HT_.out (by kernel_rfl)) ?_
         refine po (i := 34) (N := some 46) (bl 41 34359738367) (any_of HT_.out (by kernel_rfl)) ?_
         refine po (i := 35) (N := some 47) (bl 41 68719476735) (any_of HT_.out (by kernel_rfl)) ?_
         refine po (i := 36) (N := some 48) (bl 41 137438953471) (any_of HT_.out (by kernel_rfl)) ?_
         refine po (i := 37) (N := some 49) (bl 41 274877906943) (any_of HT_.out (by kernel_rfl)) ?_
         refine po (i := 38) (N := some 50) (bl 41 549755813887) (any_of HT_.out (by kernel_rfl)) ?_
         refine po (i := 39) (N := some 51) (bl 41 1099511627775) (any_of HT_.out (by kernel_rfl)) ?_
         refine pu (i := 40) (N := some 52) (bl 41 2199023255551) (any_of HT_.out (by kernel_rfl)) ?_
         refine done_ (done_of HT_.out (by kernel_rfl)) ?_
         try go_wp2
         go_ret
         exact ⟨by first | rfl | (simp [errW_none, errW_some] <;> rfl) | (simp [*, errW_none, errW_some] <;> rfl), by repeat (first | (with_reducible first | exact HB.out | apply below_alloc | apply pw_below_drewN | apply below_drew1 | refine below_set ?_ GE396.out) | exact HB.out)⟩
     ·rw [if_neg c7] at H
      exact absurd H (by simp)
   ·rw [if_neg c4] at H
    have c4b0 : decide (x5_1 < (l1.length : Int)) = false := decide_eq_false c4
    clear c4
    obtain rfl := Option.some.inj H
    have hcz24_0 : wr.cell? ⟨gb396, 0, none⟩ = some (.string a0_0) := (blk_cell BK396.out 0).trans rfl
    have hcz24_1 : wr.cell? ⟨gb396, 1, none⟩ = some (.string a0_1) := (blk_cell BK396.out 1).trans rfl
    have hcz24_2 : wr.cell? ⟨gb396, 2, none⟩ = some (.int .i64 a0_2) := (blk_cell BK396.out 2).trans rfl
    have hfz24_0 := blk_frozen BK396.out 0
    have hfz24_1 := blk_frozen BK396.out 1
    have hfz24_2 := blk_frozen BK396.out 2
    go_wp2
    go_ret
    exact ⟨by first | rfl | (simp [errW_none, errW_some] <;> rfl) | (simp [*, errW_none, errW_some] <;> rfl), by repeat (first | (with_reducible first | exact HB.out | apply below_alloc | apply pw_below_drewN | apply below_drew1 | refine below_set ?_ GE396.out) | exact HB.out)⟩
end Go.Proofs.Ytjhnpaenhdbhpaa.P
