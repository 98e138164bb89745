/- Part of the proof of ReleasePublishes: printed by programs of this repo out of the translation, and by hand. Each theorem's conditions stand in its statement. -/
import Derived.Test.YtjhnpaenhdbhpaaMReleasePublishesa
import Derived.Test.YtjhnpaenhdbhpaaMReleasePublishesb
import Derived.Test.YtjhnpaenhdbhpaaMReleasePublishesc
import Derived.Test.YtjhnpaenhdbhpaaMReleasePublishesd
import Derived.Test.YtjhnpaenhdbhpaaMReleasePublishese
namespace Go.Proofs.Ytjhnpaenhdbhpaa.P
open Go.RowKit Go.Proofs.YtjhnpaenhdbhpaaW.PrintWords Go.Proofs.YtjhnpaenhdbhpaaW.PrintLast Go.Proofs.YtjhnpaenhdbhpaaW.PrintMore
attribute [local go_sem] max2_int min2_int max_two min_two max_three min_three max_four min_four
set_option linter.unusedVariables false
set_option linter.unusedSimpArgs false
mutual
def erasureref06_merge.l0 : Nat → List (S41) → List (S41) → List (S41) → Int → Int → Option ((List (S41)))
 | 0, _, _, _, _, _ => none
 | k + 1, x0, x1, x5, x6, x7 => if x6 < (x0.length : Int) then (erasureref06_merge.j1 k x0 x1 x5 x6 x7 true) else (erasureref06_merge.j1 k x0 x1 x5 x6 x7 (decide (x7 < (x1.length : Int))))
def erasureref06_merge.j1 : Nat → List (S41) → List (S41) → List (S41) → Int → Int → Bool → Option ((List (S41)))
 | 0, _, _, _, _, _, _ => none
 | k + 1, x0, x1, x5, x6, x7, x19 => if x19 = true then (if x6 = (x0.length : Int) then (erasureref06_merge.j2 k x0 x1 x5 x6 x7 1) else (if x7 = (x1.length : Int) then (erasureref06_merge.j2 k x0 x1 x5 x6 x7 (-1)) else (if 0 ≤ x6 then (if x6 < (x0.length : Int) then (if 0 ≤ x7 then (if x7 < (x1.length : Int) then ((erasureref01_CompareRows.f k ((rd_T41 x0 x6).f0) ((rd_T41 x1 x7).f0)).bind fun t191 => (erasureref06_merge.j2 k x0 x1 x5 x6 x7 t191)) else (none)) else (none)) else (none)) else (none)))) else (some x5)
def erasureref06_merge.j2 : Nat → List (S41) → List (S41) → List (S41) → Int → Int → Int → Option ((List (S41)))
 | 0, _, _, _, _, _, _ => none
 | k + 1, x0, x1, x5, x6, x7, x8 => if x8 < 0 then (if 0 ≤ x6 then (if x6 < (x0.length : Int) then (if x5.length < 4398046511104 then (erasureref06_merge.l0 k x0 x1 (x5 ++ [(⟨(rd_T41 x0 x6).f0, (rd_T41 x0 x6).f1⟩ : S41)]) (wrap64 (x6 + 1)) x7) else (none)) else (none)) else (none)) else (if x8 > 0 then (if 0 ≤ x7 then (if x7 < (x1.length : Int) then (if x5.length < 4398046511104 then (erasureref06_merge.l0 k x0 x1 (x5 ++ [(⟨(rd_T41 x1 x7).f0, (rd_T41 x1 x7).f1⟩ : S41)]) x6 (wrap64 (x7 + 1))) else (none)) else (none)) else (none)) else (if 0 ≤ x6 then (if x6 < (x0.length : Int) then (if 0 ≤ x7 then (if x7 < (x1.length : Int) then (if (wrap64 (((rd_T41 x0 x6).f1) + ((rd_T41 x1 x7).f1))) = 0 then (erasureref06_merge.l0 k x0 x1 x5 (wrap64 (x6 + 1)) (wrap64 (x7 + 1))) else (if x5.length < 4398046511104 then (erasureref06_merge.l0 k x0 x1 (x5 ++ [(⟨(rd_T41 x0 x6).f0, wrap64 (((rd_T41 x0 x6).f1) + ((rd_T41 x1 x7).f1))⟩ : S41)]) (wrap64 (x6 + 1)) (wrap64 (x7 + 1))) else (none))) else (none)) else (none)) else (none)) else (none)))
end
def erasureref06_merge.f (k : Nat) (l0 : List (S41)) (l1 : List (S41)) : Option ((List (S41))) := erasureref06_merge.l0 k l0 l1 ([] : List (S41)) 0 0
def erasureref06_merge.T5 : Bool × List (List Nat × List Nat) := (true, [([], []), ([], []), ([0, 1], [0, 1]), ([2], [2]), ([3], [3]), ([], []), ([], []), ([5, 6], [5, 6]), ([7], [7]), ([8], [8]), ([4, 9], [4, 9]), ([10, 10, 0, 1, 2, 3, 4, 5, 6, 7, 8, 9, 10], [10])])
def erasureref06_merge.B5 : List Nat := [0, 0, 3, 7, 15, 0, 0, 96, 224, 480, 1023, 2047]
theorem erasureref06_merge.tab5 : rtab .any (opsOf Try.f45 5) = erasureref06_merge.T5 := by kernel_rfl
theorem erasureref06_merge.bits5 : waitsOk erasureref06_merge.T5.2 erasureref06_merge.B5 = true := by kernel_rfl
def erasureref06_merge.T10 : Bool × List (List Nat × List Nat) := (true, [([], []), ([], []), ([0, 1], [0, 1]), ([2], [2]), ([3], [3]), ([], []), ([], []), ([5, 6], [5, 6]), ([7], [7]), ([8], [8]), ([4, 9], [4, 9]), ([10, 0, 1, 2, 3, 4, 5, 6, 7, 8, 9, 10], [10])])
def erasureref06_merge.B10 : List Nat := [0, 0, 3, 7, 15, 0, 0, 96, 224, 480, 1023, 2047]
theorem erasureref06_merge.tab10 : rtab .any (opsOf Try.f45 10) = erasureref06_merge.T10 := by kernel_rfl
theorem erasureref06_merge.bits10 : waitsOk erasureref06_merge.T10.2 erasureref06_merge.B10 = true := by kernel_rfl
set_option maxHeartbeats 8000000 in
set_option maxRecDepth 100000 in
theorem erasureref06_merge.calls (k : Nat) (P0_ : Nat → Prop) (A0 : Option Addr) (c0 : Nat) (l0 : List (S41)) (P1_ : Nat → Prop) (A1 : Option Addr) (c1 : Nat) (l1 : List (S41)) (r : List (S41)) (w : World) (hs0 : Kd.V k41 41 w w.heap.size (fun k_ => P0_ k_) (.slice A0 l0.length c0) l0) (hs1 : Kd.V k41 41 w w.heap.size (fun k_ => P1_ k_) (.slice A1 l1.length c1) l1) (h : erasureref06_merge.f k l0 l1 = some r) :
  Calls Try.prog 45 #[.slice A0 l0.length c0, .slice A1 l1.length c1] w fun e w' => ∃ v0_ : Value, e = .returned (v0_) ∧ Kd.N k41 41 w' w.heap.size (fun k_ => ((P0_ k_ ∨ P1_ k_) ∨ w.heap.size ≤ k_)) v0_ r ∧ Below w.heap.size w w' := by
 have hu41 := Try.underlying41
 have HO0 := Aside0.mk (show Kd.V k41 41 w w.heap.size (fun k_ => ((P0_ k_ ∨ P1_ k_) ∨ w.heap.size ≤ k_)) (.slice A0 l0.length c0) l0 from Kd.V_mono hs0 (fun k_ hk => .inl (.inl hk)))
 have HO1 := Aside0.mk (show Kd.V k41 41 w w.heap.size (fun k_ => ((P0_ k_ ∨ P1_ k_) ∨ w.heap.size ≤ k_)) (.slice A1 l1.length c1) l1 from Kd.V_mono hs1 (fun k_ hk => .inl (.inr hk)))
 have HB := Aside0.mk (Below.refl w.heap.size w)
 have H : (erasureref06_merge.l0 k l0 l1 ([] : List (S41)) 0 0) = some r := h
 clear h
 have H' := Aside0.mk H
 clear H
 go_enter Try.func45, Try.ntmps45
 go_wp2
 go_loopg [5, 6, 7] k (fun kq v5 v6 v7 w' => ∃ (x5_1 : List (S41)) (x6_1 : Int) (x7_1 : Int), v6 = .int .i64 x6_1 ∧ v7 = .int .i64 x7_1 ∧ Aside0 (erasureref06_merge.l0 kq l0 l1 x5_1 x6_1 x7_1 = some r) ∧ Aside0 (kq ≤ k) ∧ Aside0 (Kd.V k41 41 w' w.heap.size (fun k_ => ((P0_ k_ ∨ P1_ k_) ∨ w.heap.size ≤ k_) ∧ some k_ ≠ (v5 : Value).ownBlock) (.slice A0 l0.length c0) l0) ∧ Aside0 (Kd.V k41 41 w' w.heap.size (fun k_ => ((P0_ k_ ∨ P1_ k_) ∨ w.heap.size ≤ k_) ∧ some k_ ≠ (v5 : Value).ownBlock) (.slice A1 l1.length c1) l1) ∧ Aside0 (Kd.N k41 41 w' w.heap.size (fun k_ => ((P0_ k_ ∨ P1_ k_) ∨ w.heap.size ≤ k_)) v5 x5_1) ∧ Aside0 (Below w.heap.size w w'))
 case atStart => exact ⟨(([] : List (S41))), (0), (0), (by first | rfl | (simp; done) | (simp [*]; done)), (by first | rfl | (simp; done) | (simp [*]; done)), H', ⟨Nat.le_refl _⟩, ⟨by (with_reducible repeat (first | apply Kd.V_alloc | apply Kd.V_drewN | apply Kd.V_drew)); exact Kd.V_mono HO0.out (fun _ hk => ⟨hk, (by simp [Value.ownBlock])⟩)⟩, ⟨by (with_reducible repeat (first | apply Kd.V_alloc | apply Kd.V_drewN | apply Kd.V_drew)); exact Kd.V_mono HO1.out (fun _ hk => ⟨hk, (by simp [Value.ownBlock])⟩)⟩, ⟨by first | exact Kd.S_nil _ _ _ _ _ | exact Kd.N_nil _ _ _ _ _ | exact Kd.V_nil _ _ _ _ _ | exact Kd.Q_nil _ _ _ _ _ | exact Kd.R_nil _ _ _ _ _⟩, ⟨by repeat (first | (with_reducible first | exact HB.out | apply below_alloc | apply pw_below_drewN | apply below_drew1) | exact HB.out)⟩⟩
 case round =>
  clear H'
  try clear c1
  try clear p2
  obtain ⟨x5_1, x6_1, x7_1, rfl, rfl, HA, HK1, HO_0, HO_1, HO_5, HB⟩ := hrel
  cases gk with
  | zero => exact absurd HA.out (by simp [erasureref06_merge.l0])
  | succ k1 =>
   have H := HA.out
   clear HA
   simp only [erasureref06_merge.l0] at H
   have HC3 := Aside0.mk H
   clear H
   go_upto_region 3 with (fail)
   go_cut [19] (fun v19 wc => ∃ (kq : Nat) (x19_2 : Bool), v19 = .bool x19_2 ∧ Aside0 (erasureref06_merge.j1 kq l0 l1 x5_1 x6_1 x7_1 x19_2 = some r) ∧ Aside0 (kq ≤ k1) ∧ Aside0 (Kd.V k41 41 wc w.heap.size (fun k_ => ((P0_ k_ ∨ P1_ k_) ∨ w.heap.size ≤ k_) ∧ some k_ ≠ (u5 : Value).ownBlock) (.slice A0 l0.length c0) l0) ∧ Aside0 (Kd.V k41 41 wc w.heap.size (fun k_ => ((P0_ k_ ∨ P1_ k_) ∨ w.heap.size ≤ k_) ∧ some k_ ≠ (u5 : Value).ownBlock) (.slice A1 l1.length c1) l1) ∧ Aside0 (Kd.N k41 41 wc w.heap.size (fun k_ => ((P0_ k_ ∨ P1_ k_) ∨ w.heap.size ≤ k_)) u5 x5_1) ∧ Aside0 (Below w.heap.size w wc))
   case first =>
    have H := HC3.out
    clear HC3
    by_cases c4 : x6_1 < (l0.length : Int)
    ·rw [if_pos c4] at H
     have c4b0 : decide (x6_1 < (l0.length : Int)) = true := decide_eq_true c4
     clear c4
     (first | rw [c4b0] | (simp only [i64_w, i32_w]; rw [c4b0]) | skip)
     have H' := Aside0.mk H
     clear H
     go_wp2
     go_meet
     case rel => exact ⟨_, (true), (by first | rfl | (simp; done) | (simp [*]; done)), H', ⟨by have := HK1.out; first | omega | exact Nat.le_refl _⟩, ⟨by (with_reducible repeat (first | apply Kd.V_alloc | apply Kd.V_drewN | apply Kd.V_drew)); exact HO_0.out⟩, ⟨by (with_reducible repeat (first | apply Kd.V_alloc | apply Kd.V_drewN | apply Kd.V_drew)); exact HO_1.out⟩, ⟨by (with_reducible repeat (first | apply Kd.N_alloc | apply Kd.N_drewN | apply Kd.N_drew)); exact HO_5.out⟩, ⟨by repeat (first | (with_reducible first | exact HB.out | apply below_alloc | apply pw_below_drewN | apply below_drew1) | exact HB.out)⟩⟩
    ·rw [if_neg c4] at H
     have c4b0 : decide (x6_1 < (l0.length : Int)) = false := decide_eq_false c4
     clear c4
     (first | rw [c4b0] | (simp only [i64_w, i32_w]; rw [c4b0]) | skip)
     have H' := Aside0.mk H
     clear H
     go_wp2
     go_meet
     case rel => exact ⟨_, (decide (x7_1 < (l1.length : Int))), (by first | rfl | (simp; done) | (simp [*]; done)), H', ⟨by have := HK1.out; first | omega | exact Nat.le_refl _⟩, ⟨by (with_reducible repeat (first | apply Kd.V_alloc | apply Kd.V_drewN | apply Kd.V_drew)); exact HO_0.out⟩, ⟨by (with_reducible repeat (first | apply Kd.V_alloc | apply Kd.V_drewN | apply Kd.V_drew)); exact HO_1.out⟩, ⟨by (with_reducible repeat (first | apply Kd.N_alloc | apply Kd.N_drewN | apply Kd.N_drew)); exact HO_5.out⟩, ⟨by repeat (first | (with_reducible first | exact HB.out | apply below_alloc | apply pw_below_drewN | apply below_drew1) | exact HB.out)⟩⟩
   case rest =>
    clear HC3
    try clear c1
    try clear p2
    try clear c4
    try clear c4b0
    try clear p2
    obtain ⟨kq, x19_2, rfl, HA, HJ2, HO_0, HO_1, HO_5, HB⟩ := hcut
    cases kq with
    | zero => exact absurd HA.out (by simp [erasureref06_merge.j1])
    | succ kj2 =>
     have H := HA.out
     clear HA
     simp only [erasureref06_merge.j1] at H
     by_cases c5 : x19_2 = true
     ·subst c5
      have H1 : (if x6_1 = (l0.length : Int) then (erasureref06_merge.j2 kj2 l0 l1 x5_1 x6_1 x7_1 1) else (if x7_1 = (l1.length : Int) then (erasureref06_merge.j2 kj2 l0 l1 x5_1 x6_1 x7_1 (-1)) else (if 0 ≤ x6_1 then (if x6_1 < (l0.length : Int) then (if 0 ≤ x7_1 then (if x7_1 < (l1.length : Int) then ((erasureref01_CompareRows.f kj2 ((rd_T41 l0 x6_1).f0) ((rd_T41 l1 x7_1).f0)).bind fun t191 => (erasureref06_merge.j2 kj2 l0 l1 x5_1 x6_1 x7_1 t191)) else (none)) else (none)) else (none)) else (none)))) = some r := by rw [if_pos rfl] at H; exact H
      clear H
      have H := H1
      clear H1
      have HC6 := Aside0.mk H
      clear H
      go_upto_block 2 with (fail)
      go_cut [8] (fun v8 wc => ∃ (kq : Nat) (x8_5 : Int), v8 = .int .i64 x8_5 ∧ Aside0 (erasureref06_merge.j2 kq l0 l1 x5_1 x6_1 x7_1 x8_5 = some r) ∧ Aside0 (kq ≤ kj2) ∧ Aside0 (Kd.V k41 41 wc w.heap.size (fun k_ => ((P0_ k_ ∨ P1_ k_) ∨ w.heap.size ≤ k_) ∧ some k_ ≠ (u5 : Value).ownBlock) (.slice A0 l0.length c0) l0) ∧ Aside0 (Kd.V k41 41 wc w.heap.size (fun k_ => ((P0_ k_ ∨ P1_ k_) ∨ w.heap.size ≤ k_) ∧ some k_ ≠ (u5 : Value).ownBlock) (.slice A1 l1.length c1) l1) ∧ Aside0 (Kd.N k41 41 wc w.heap.size (fun k_ => ((P0_ k_ ∨ P1_ k_) ∨ w.heap.size ≤ k_)) u5 x5_1) ∧ Aside0 (Below w.heap.size w wc))
      case first =>
       have H := HC6.out
       clear HC6
       by_cases c7 : x6_1 = (l0.length : Int)
       ·rw [if_pos c7] at H
        have c7b0 : (x6_1 == (l0.length : Int)) = true := beq_iff_eq.mpr c7
        have c7b1 : (x6_1 != (l0.length : Int)) = false := bne_eq_false_iff_eq.mpr c7
        clear c7
        (first | rw [c7b0] | (simp only [i64_w, i32_w]; rw [c7b0]) | skip)
        have H' := Aside0.mk H
        clear H
        go_wp2
        go_meet
        case rel => exact ⟨_, (1), (by first | rfl | (simp; done) | (simp [*]; done)), H', ⟨by have := HK1.out; have := HJ2.out; first | omega | exact Nat.le_refl _⟩, ⟨by (with_reducible repeat (first | apply Kd.V_alloc | apply Kd.V_drewN | apply Kd.V_drew)); exact HO_0.out⟩, ⟨by (with_reducible repeat (first | apply Kd.V_alloc | apply Kd.V_drewN | apply Kd.V_drew)); exact HO_1.out⟩, ⟨by (with_reducible repeat (first | apply Kd.N_alloc | apply Kd.N_drewN | apply Kd.N_drew)); exact HO_5.out⟩, ⟨by repeat (first | (with_reducible first | exact HB.out | apply below_alloc | apply pw_below_drewN | apply below_drew1) | exact HB.out)⟩⟩
       ·rw [if_neg c7] at H
        have c7b0 : (x6_1 == (l0.length : Int)) = false := beq_eq_false_iff_ne.mpr c7
        have c7b1 : (x6_1 != (l0.length : Int)) = true := bne_iff_ne.mpr c7
        (first | rw [c7b0] | (simp only [i64_w, i32_w]; rw [c7b0]) | skip)
        by_cases c8 : x7_1 = (l1.length : Int)
        ·rw [if_pos c8] at H
         have c8b0 : (x7_1 == (l1.length : Int)) = true := beq_iff_eq.mpr c8
         have c8b1 : (x7_1 != (l1.length : Int)) = false := bne_eq_false_iff_eq.mpr c8
         clear c8
         have H' := Aside0.mk H
         clear H
         go_wp2
         go_meet
         case rel => exact ⟨_, ((-1)), (by first | rfl | (simp; done) | (simp [*]; done)), H', ⟨by have := HK1.out; have := HJ2.out; first | omega | exact Nat.le_refl _⟩, ⟨by (with_reducible repeat (first | apply Kd.V_alloc | apply Kd.V_drewN | apply Kd.V_drew)); exact HO_0.out⟩, ⟨by (with_reducible repeat (first | apply Kd.V_alloc | apply Kd.V_drewN | apply Kd.V_drew)); exact HO_1.out⟩, ⟨by (with_reducible repeat (first | apply Kd.N_alloc | apply Kd.N_drewN | apply Kd.N_drew)); exact HO_5.out⟩, ⟨by repeat (first | (with_reducible first | exact HB.out | apply below_alloc | apply pw_below_drewN | apply below_drew1) | exact HB.out)⟩⟩
        ·rw [if_neg c8] at H
         have c8b0 : (x7_1 == (l1.length : Int)) = false := beq_eq_false_iff_ne.mpr c8
         have c8b1 : (x7_1 != (l1.length : Int)) = true := bne_iff_ne.mpr c8
         by_cases c9 : 0 ≤ x6_1
         ·rw [if_pos c9] at H
          have c9b0 : decide (0 ≤ x6_1) = true := decide_eq_true c9
          clear c9
          by_cases c10 : x6_1 < (l0.length : Int)
          ·rw [if_pos c10] at H
           have c10b0 : decide (x6_1 < (l0.length : Int)) = true := decide_eq_true c10
           clear c10
           by_cases c11 : 0 ≤ x7_1
           ·rw [if_pos c11] at H
            have c11b0 : decide (0 ≤ x7_1) = true := decide_eq_true c11
            clear c11
            by_cases c12 : x7_1 < (l1.length : Int)
            ·rw [if_pos c12] at H
             have c12b0 : decide (x7_1 < (l1.length : Int)) = true := decide_eq_true c12
             clear c12
             replace H := Option.bind_eq_some_iff.mp H
             obtain ⟨t191, A130, H⟩ := H
             replace H : (erasureref06_merge.j2 kj2 l0 l1 x5_1 x6_1 x7_1 t191) = some r := H
             have A13 := Aside0.mk A130
             clear A130
             have H' := Aside0.mk H
             clear H
             try go_wp2
             have n0_ := Aside0.mk (Kd.V_drew HO_0.out)
             have n1_ := Aside0.mk (Kd.V_drew HO_1.out)
             have n2_ := Aside0.mk (Kd.N_drew HO_5.out)
             have n3_ := Aside0.mk (below_drew1 HB.out)
             clear HO_0
             clear HO_1
             clear HO_5
             clear HB
             have HO_0 := n0_
             have HO_1 := n1_
             have HO_5 := n2_
             have HB := n3_
             clear n0_ n1_ n2_ n3_
             have p189 : 0 ≤ (x6_1 : Int) := of_decide_eq_true (by first | (with_reducible assumption) | assumption)
             have q189 : x6_1 < (l0.length : Int) := of_decide_eq_true (by first | (with_reducible assumption) | assumption)
             obtain ⟨ad189, A189_0, c189_0, e189, hx189_0, hx189_1, hl189_0, hi189_0⟩ := at_T41 (Kd.V_reads' HO_0.out).2.2 x6_1 p189 q189
             cases e189
             obtain ⟨ce189, hce189, hMe189, hcc189⟩ := Kd.V_get HO_0.out z41 x6_1 p189 (by first | exact q189 | exact of_decide_eq_true (by first | (with_reducible assumption) | assumption) | (have e_ := (Kd.V_reads' HO_0.out).1; omega))
             obtain ⟨ua189_0, uc189_0, rfl, ul189_0, ge189_0⟩ := k41_openF hMe189
             have hv189_0 := hcc189 0 _ rfl
             rw [Nat.add_zero] at hv189_0
             replace hv189_0 := Option.some.inj (hv189_0.symm.trans hx189_0)
             injection hv189_0 with hva_ hvn_ hvc_
             rw [hva_] at ge189_0
             rw [hvc_] at ul189_0
             have HL189_0 := Aside0.mk (show Kd.V k38 38 _ w.heap.size _ _ ((rd_T41 l0 x6_1).f0) from Kd.V_mk ul189_0 ge189_0)
             clear hva_ hvn_ hvc_ ge189_0 ul189_0
             clear hcc189 hce189
             have HR189_0 := Aside0.mk hi189_0
             have HC189_0 := Aside0.mk hl189_0
             clear hi189_0 hl189_0
             replace p189 := eq_true p189
             replace q189 := eq_true q189
             have p190 : 0 ≤ (x7_1 : Int) := of_decide_eq_true (by first | (with_reducible assumption) | assumption)
             have q190 : x7_1 < (l1.length : Int) := of_decide_eq_true (by first | (with_reducible assumption) | assumption)
             obtain ⟨ad190, A190_0, c190_0, e190, hx190_0, hx190_1, hl190_0, hi190_0⟩ := at_T41 (Kd.V_reads' HO_1.out).2.2 x7_1 p190 q190
             cases e190
             obtain ⟨ce190, hce190, hMe190, hcc190⟩ := Kd.V_get HO_1.out z41 x7_1 p190 (by first | exact q190 | exact of_decide_eq_true (by first | (with_reducible assumption) | assumption) | (have e_ := (Kd.V_reads' HO_1.out).1; omega))
             obtain ⟨ua190_0, uc190_0, rfl, ul190_0, ge190_0⟩ := k41_openF hMe190
             have hv190_0 := hcc190 0 _ rfl
             rw [Nat.add_zero] at hv190_0
             replace hv190_0 := Option.some.inj (hv190_0.symm.trans hx190_0)
             injection hv190_0 with hva_ hvn_ hvc_
             rw [hva_] at ge190_0
             rw [hvc_] at ul190_0
             have HL190_0 := Aside0.mk (show Kd.V k38 38 _ w.heap.size _ _ ((rd_T41 l1 x7_1).f0) from Kd.V_mk ul190_0 ge190_0)
             clear hva_ hvn_ hvc_ ge190_0 ul190_0
             clear hcc190 hce190
             have HR190_0 := Aside0.mk hi190_0
             have HC190_0 := Aside0.mk hl190_0
             clear hi190_0 hl190_0
             replace p190 := eq_true p190
             replace q190 := eq_true q190
             refine start_ (n := 12) (S := fun w' => w'.cell? (ad189.add ((x6_1).toNat * 2)) = some (.slice A189_0 ((rd_T41 l0 x6_1).f0).length c189_0) ∧ w'.cell? ⟨(ad189.add ((x6_1).toNat * 2)).block, (ad189.add ((x6_1).toNat * 2)).off + 1, none⟩ = some (.int .i64 ((rd_T41 l0 x6_1).f1)) ∧ w'.cell? (ad190.add ((x7_1).toNat * 2)) = some (.slice A190_0 ((rd_T41 l1 x7_1).f0).length c190_0) ∧ w'.cell? ⟨(ad190.add ((x7_1).toNat * 2)).block, (ad190.add ((x7_1).toNat * 2)).off + 1, none⟩ = some (.int .i64 ((rd_T41 l1 x7_1).f1))) (ds := []) #[false, false, false, false, false, false, false, false, false, false, false, false] (by kernel_rfl) rfl rfl ⟨hx189_0, hx189_1, hx190_0, hx190_1⟩ (fun hHeld => ?_); refine with_tabW erasureref06_merge.tab5 erasureref06_merge.bits5 (fun HT_ HW_ => ?_)
             generalize wc.drew = w14 at HO_0 HO_1 HO_5 HB HL189_0 HL190_0 HR189_0 HR190_0 hx189_0 hx189_1 hx190_0 hx190_1 hHeld ⊢
             refine pu (i := 0) (N := some 20) (bl 12 1) (any_of HT_.out (by kernel_rfl)) ?_
             refine pu (i := 1) (N := some 21) (bl 12 3) (any_of HT_.out (by kernel_rfl)) ?_
             refine pu (i := 2) (N := some 22) (bl 12 7) (any_of HT_.out (by kernel_rfl)) ?_
             refine pu (i := 3) (N := some 23) (bl 12 15) (any_of HT_.out (by kernel_rfl)) ?_
             refine pu (i := 5) (N := some 25) (bl 12 47) (any_of HT_.out (by kernel_rfl)) ?_
             refine pu (i := 6) (N := some 26) (bl 12 111) (any_of HT_.out (by kernel_rfl)) ?_
             refine pu (i := 7) (N := some 27) (bl 12 239) (any_of HT_.out (by kernel_rfl)) ?_
             refine pu (i := 8) (N := some 28) (bl 12 495) (any_of HT_.out (by kernel_rfl)) ?_
             refine ta (i := 4) (N := some 24) (bl 12 511) (take_ofW HT_.out HW_.out (by kernel_rfl)) hHeld ?_
             refine ta (i := 9) (N := some 29) (bl 12 1023) (take_ofW HT_.out HW_.out (by kernel_rfl)) hHeld ?_
             refine one_ (i := 10) (N := some 30) (bl 12 2047) rfl rfl (one_of HT_.out (by kernel_rfl)) (by decide) (fun K hK => ?_)
             refine goes_ Try.func42 (by kernel_rfl) rfl #[.slice A189_0 ((rd_T41 l0 x6_1).f0).length c189_0, .slice A190_0 ((rd_T41 l1 x7_1).f0).length c190_0] (by rfl) rfl rfl (by (try simp only [List.map_toArray, List.map_cons, List.map_nil]); first | done | rfl | (simp only [List.length_drop, List.length_take]; rfl)) ?_
             with_reducible refine (erasureref01_CompareRows.calls kj2 _ _ ((rd_T41 l0 x6_1).f0) _ _ ((rd_T41 l1 x7_1).f0) t191 _ ?side1 ?side2 ?side3 ?side4 A13.out).mono ?_
             (case side1 => repeat (first | exact (by repeat (first | (with_reducible exact HR189_0.out) | (with_reducible refine Kd.C_alloc ?_ _) | (with_reducible refine Kd.C_drewN ?_ _) | (with_reducible refine Kd.C_drew ?_) | exact HR189_0.out)) | (with_reducible refine Kd.C_alloc ?_ _) | (with_reducible refine Kd.C_drewN ?_ _) | (with_reducible refine Kd.C_drew ?_)))
             (case side2 => exact HC189_0.out)
             (case side3 => repeat (first | exact (by repeat (first | (with_reducible exact HR190_0.out) | (with_reducible refine Kd.C_alloc ?_ _) | (with_reducible refine Kd.C_drewN ?_ _) | (with_reducible refine Kd.C_drew ?_) | exact HR190_0.out)) | (with_reducible refine Kd.C_alloc ?_ _) | (with_reducible refine Kd.C_drewN ?_ _) | (with_reducible refine Kd.C_drew ?_)))
             (case side4 => exact HC190_0.out)
             rintro e w15 ⟨rfl, hb⟩
             have HS0_ := (hb.cell (World.block_lt_of_cell? _ _ (hHeld.1))).trans (hHeld.1)
             have HS1_ := (hb.cell (World.block_lt_of_cell? _ _ (hHeld.2.1))).trans (hHeld.2.1)
             have HS2_ := (hb.cell (World.block_lt_of_cell? _ _ (hHeld.2.2.1))).trans (hHeld.2.2.1)
             have HS3_ := (hb.cell (World.block_lt_of_cell? _ _ (hHeld.2.2.2))).trans (hHeld.2.2.2)
             refine ⟨_, rfl, ?_⟩
             have n0_ := Aside0.mk (Kd.V_below (by (with_reducible repeat (first | apply Kd.V_alloc | apply Kd.V_drewN | apply Kd.V_drew)); exact HO_0.out) hb)
             have n1_ := Aside0.mk (Kd.V_below (by (with_reducible repeat (first | apply Kd.V_alloc | apply Kd.V_drewN | apply Kd.V_drew)); exact HO_1.out) hb)
             have n2_ := Aside0.mk (Kd.N_below (by (with_reducible repeat (first | apply Kd.N_alloc | apply Kd.N_drewN | apply Kd.N_drew)); exact HO_5.out) hb)
             have n3_ := Aside0.mk (Kd.V_below (by (with_reducible repeat (first | apply Kd.V_alloc | apply Kd.V_drewN | apply Kd.V_drew)); exact HL189_0.out) hb)
             have n4_ := Aside0.mk (Kd.V_below (by (with_reducible repeat (first | apply Kd.V_alloc | apply Kd.V_drewN | apply Kd.V_drew)); exact HL190_0.out) hb)
             have n5_ := Aside0.mk (Kd.C_below (by repeat (first | (with_reducible exact HR189_0.out) | (with_reducible refine Kd.C_alloc ?_ _) | (with_reducible refine Kd.C_drewN ?_ _) | (with_reducible refine Kd.C_drew ?_) | exact HR189_0.out)) hb)
             have n6_ := Aside0.mk (Kd.C_below (by repeat (first | (with_reducible exact HR190_0.out) | (with_reducible refine Kd.C_alloc ?_ _) | (with_reducible refine Kd.C_drewN ?_ _) | (with_reducible refine Kd.C_drew ?_) | exact HR190_0.out)) hb)
             have n7_ := Aside0.mk (below_step (by repeat (first | (with_reducible first | exact HB.out | apply below_alloc | apply pw_below_drewN | apply below_drew1) | exact HB.out)) hb)
             clear HO_0
             clear HO_1
             clear HO_5
             clear HL189_0
             clear HL190_0
             clear HR189_0
             clear HR190_0
             clear HB
             have HO_0 := n0_
             have HO_1 := n1_
             have HO_5 := n2_
             have HL189_0 := n3_
             have HL190_0 := n4_
             have HR189_0 := n5_
             have HR190_0 := n6_
             have HB := n7_
             clear n0_ n1_ n2_ n3_ n4_ n5_ n6_ n7_
             (try clear hb)
             (try clear hb2)
             (try clear hk)
             (try clear hi)
             refine hK.out _ _ ⟨HS0_, HS1_, HS2_, HS3_⟩ (fun hHeld => ?_)
             clear hK K
             refine norm_ (a' := ?_) ?_ ?_
             rotate_left
             ·show Act.put _ (some 30) _ = _
              simp only [Act.put, List.setIfInBounds_toArray, List.set_cons_zero, List.set_cons_succ, i64_w, i32_w]
              rfl
             refine pu (i := 11) (N := some 8) (bl 12 4095) (any_of HT_.out (by kernel_rfl)) ?_
             refine done_ (done_of HT_.out (by kernel_rfl)) ?_
             try go_wp2
             go_meet
             case rel => exact ⟨_, (t191), (by first | rfl | (simp; done) | (simp [*]; done)), H', ⟨by have := HK1.out; have := HJ2.out; first | omega | exact Nat.le_refl _⟩, ⟨by (with_reducible repeat (first | apply Kd.V_alloc | apply Kd.V_drewN | apply Kd.V_drew)); exact HO_0.out⟩, ⟨by (with_reducible repeat (first | apply Kd.V_alloc | apply Kd.V_drewN | apply Kd.V_drew)); exact HO_1.out⟩, ⟨by (with_reducible repeat (first | apply Kd.N_alloc | apply Kd.N_drewN | apply Kd.N_drew)); exact HO_5.out⟩, ⟨by repeat (first | (with_reducible first | exact HB.out | apply below_alloc | apply pw_below_drewN | apply below_drew1) | exact HB.out)⟩⟩
            ·rw [if_neg c12] at H
             exact absurd H (by simp)
           ·rw [if_neg c11] at H
            exact absurd H (by simp)
          ·rw [if_neg c10] at H
           exact absurd H (by simp)
         ·rw [if_neg c9] at H
          exact absurd H (by simp)
      case rest =>
       clear HC6
       try clear c1
       try clear p1
       try clear q1
       try clear hx1
       try clear p2
       try clear c4
       try clear c4b0
       try clear c5
       try clear c7
       try clear c7b0
       try clear c7b1
       try clear c8
       try clear c8b0
       try clear c8b1
       try clear c9
       try clear c9b0
       try clear c10
       try clear c10b0
       try clear c11
       try clear c11b0
       try clear c12
       try clear c12b0
       try clear hx189_0
       try clear hx189_1
       try clear hx190_0
       try clear hx190_1
       try clear p189
       try clear p190
       try clear p2
       try clear q189
       try clear q190
       obtain ⟨kq, x8_5, rfl, HA, HJ5, HO_0, HO_1, HO_5, HB⟩ := hcut
       cases kq with
       | zero => exact absurd HA.out (by simp [erasureref06_merge.j2])
       | succ kj5 =>
        have H := HA.out
        clear HA
        simp only [erasureref06_merge.j2] at H
        by_cases c16 : x8_5 < 0
        ·rw [if_pos c16] at H
         have c16b0 : decide (x8_5 < 0) = true := decide_eq_true c16
         clear c16
         by_cases c17 : 0 ≤ x6_1
         ·rw [if_pos c17] at H
          have c17b0 : decide (0 ≤ x6_1) = true := decide_eq_true c17
          clear c17
          by_cases c18 : x6_1 < (l0.length : Int)
          ·rw [if_pos c18] at H
           have c18b0 : decide (x6_1 < (l0.length : Int)) = true := decide_eq_true c18
           clear c18
           by_cases c19 : x5_1.length < 4398046511104
           ·rw [if_pos c19] at H
            have LMc19 := Aside0.mk c19
            clear c19
            obtain ⟨y193, hy193⟩ : ∃ y_ : List (S41), y_ = (x5_1 ++ [(⟨(rd_T41 l0 x6_1).f0, (rd_T41 l0 x6_1).f1⟩ : S41)]) := ⟨_, rfl⟩
            replace H : (erasureref06_merge.l0 kj5 l0 l1 y193 (wrap64 (x6_1 + 1)) x7_1) = some r := by first | (rw [hy193]; with_reducible exact H) | (have H2_ := (Option.bind_some _ _).symm.trans H; rw [hy193]; with_reducible exact H2_) | (have H2_ := (Option.bind_some _ _).symm.trans H; with_reducible exact H2_) | with_reducible exact H | (rw [hy193]; exact H) | exact H
            have Ny193 := Aside0.mk hy193
            clear hy193
            have H' := Aside0.mk H
            clear H
            have p192 : 0 ≤ (x6_1 : Int) := of_decide_eq_true (by first | (with_reducible assumption) | assumption)
            have q192 : x6_1 < (l0.length : Int) := of_decide_eq_true (by first | (with_reducible assumption) | assumption)
            obtain ⟨ad192, A192_0, c192_0, e192, hx192_0, hx192_1, hl192_0, hi192_0⟩ := at_T41 (Kd.V_reads' HO_0.out).2.2 x6_1 p192 q192
            cases e192
            obtain ⟨ce192, hce192, hMe192, hcc192⟩ := Kd.V_get HO_0.out z41 x6_1 p192 (by first | exact q192 | exact of_decide_eq_true (by first | (with_reducible assumption) | assumption) | (have e_ := (Kd.V_reads' HO_0.out).1; omega))
            obtain ⟨ua192_0, uc192_0, rfl, ul192_0, ge192_0⟩ := k41_openF hMe192
            have hv192_0 := hcc192 0 _ rfl
            rw [Nat.add_zero] at hv192_0
            replace hv192_0 := Option.some.inj (hv192_0.symm.trans hx192_0)
            injection hv192_0 with hva_ hvn_ hvc_
            rw [hva_] at ge192_0
            rw [hvc_] at ul192_0
            have HL192_0 := Aside0.mk (show Kd.V k38 38 _ w.heap.size _ _ ((rd_T41 l0 x6_1).f0) from Kd.V_mk ul192_0 ge192_0)
            clear hva_ hvn_ hvc_ ge192_0 ul192_0
            clear hcc192 hce192
            have HR192_0 := Aside0.mk hi192_0
            have HC192_0 := Aside0.mk hl192_0
            clear hi192_0 hl192_0
            replace p192 := eq_true p192
            replace q192 := eq_true q192
            go_wp2_with (first | ((with_reducible refine gate_builtin (b := .append) (xs := #[.tmp 71, .tmp 76]) rfl ?_); (try (refine gate_guard (by rfl) ?_; dsimp only)); at_builtin; refine Kd.N_append k41 (w0 := w) w.heap.size rfl (.tmp 71) (.tmp 76) 24 41 (.agg #[(.slice none 0 0), (.int .i64 0)]) 32 rfl Try.underlying24 info41 rfl (by decide) (by omega) u5 x5_1 (⟨(rd_T41 l0 x6_1).f0, (rd_T41 l0 x6_1).f1⟩ : S41) [.slice A192_0 ((rd_T41 l0 x6_1).f0).length c192_0, .int .i64 ((rd_T41 l0 x6_1).f1)] (fun k_ => ((P0_ k_ ∨ P1_ k_) ∨ w.heap.size ≤ k_)) (fun k_ => ((fun k_ => ((P0_ k_ ∨ P1_ k_) ∨ w.heap.size ≤ k_))) k_ ∧ some k_ ≠ (u5 : Value).ownBlock) rfl rfl ?aP (fun _ hk => hk) ?aF ?aO ?aB ?aS ?aL ?_; (case aP => exact (k41_mkF _ _ (⟨(rd_T41 l0 x6_1).f0, (rd_T41 l0 x6_1).f1⟩ : S41) (Kd.V_reads' (Kd.V_mono (ok' := (fun k_ => ((fun k_ => ((P0_ k_ ∨ P1_ k_) ∨ w.heap.size ≤ k_))) k_ ∧ some k_ ≠ (u5 : Value).ownBlock)) (HL192_0.out) (fun k_ hk => ⟨hk.1, hk.2⟩))).2.1 (Kd.V_F (Kd.V_mono (ok' := (fun k_ => ((fun k_ => ((P0_ k_ ∨ P1_ k_) ∨ w.heap.size ≤ k_))) k_ ∧ some k_ ≠ (u5 : Value).ownBlock)) (HL192_0.out) (fun k_ hk => ⟨hk.1, hk.2⟩))))); (case aB => exact (by repeat (first | (with_reducible first | exact HB.out | apply below_alloc | apply pw_below_drewN | apply below_drew1) | exact HB.out))); (case aF => exact (fun k_ hk => (.inr (Nat.le_trans (below_size (by repeat (first | (with_reducible first | exact HB.out | apply below_alloc | apply pw_below_drewN | apply below_drew1) | exact HB.out))) hk)))); (case aO => exact (by (with_reducible repeat (first | apply Kd.N_alloc | apply Kd.N_drewN | apply Kd.N_drew)); exact HO_5.out)); (case aS => exact (below_size (by repeat (first | (with_reducible first | exact HB.out | apply below_alloc | apply pw_below_drewN | apply below_drew1) | exact HB.out)))); (case aL => have := LMc19.out; omega); intro v194 w20 ho hb hg hat; rw [← Ny193.out] at ho; have n0_ := Aside0.mk (Kd.V_afterv (ok := (fun k_ => ((P0_ k_ ∨ P1_ k_) ∨ w.heap.size ≤ k_))) (by (with_reducible repeat (first | apply Kd.V_alloc | apply Kd.V_drewN | apply Kd.V_drew)); exact HO_0.out) hg hat); have n1_ := Aside0.mk (Kd.V_afterv (ok := (fun k_ => ((P0_ k_ ∨ P1_ k_) ∨ w.heap.size ≤ k_))) (by (with_reducible repeat (first | apply Kd.V_alloc | apply Kd.V_drewN | apply Kd.V_drew)); exact HO_1.out) hg hat); have n2_ := Aside0.mk (Kd.V_afterv (ok := (fun k_ => ((P0_ k_ ∨ P1_ k_) ∨ w.heap.size ≤ k_))) (by (with_reducible repeat (first | apply Kd.V_alloc | apply Kd.V_drewN | apply Kd.V_drew)); exact HL192_0.out) hg hat); have n3_ := Aside0.mk (hb); have n4_ := Aside0.mk (ho); clear HO_0; clear HO_1; clear HL192_0; clear HB; clear HO_5; have HO_0 := n0_; have HO_1 := n1_; have HL192_0 := n2_; have HB := n3_; have HO195 := n4_; clear n0_ n1_ n2_ n3_ n4_; clear ho hb hg hat))
            go_roundg kj5
            case measure => have := HK1.out; have := HJ2.out; have := HJ5.out; omega
            case rel => exact ⟨(y193), (wrap64 (x6_1 + 1)), (x7_1), (by first | rfl | (simp; done) | (simp [*]; done)), (by first | rfl | (simp; done) | (simp [*]; done)), H', ⟨by have := HK1.out; have := HJ2.out; have := HJ5.out; omega⟩, ⟨by (with_reducible repeat (first | apply Kd.V_alloc | apply Kd.V_drewN | apply Kd.V_drew)); exact HO_0.out⟩, ⟨by (with_reducible repeat (first | apply Kd.V_alloc | apply Kd.V_drewN | apply Kd.V_drew)); exact HO_1.out⟩, ⟨by (with_reducible repeat (first | apply Kd.N_alloc | apply Kd.N_drewN | apply Kd.N_drew)); exact HO195.out⟩, ⟨by repeat (first | (with_reducible first | exact HB.out | apply below_alloc | apply pw_below_drewN | apply below_drew1) | exact HB.out)⟩⟩
           ·rw [if_neg c19] at H
            exact absurd H (by simp)
          ·rw [if_neg c18] at H
           exact absurd H (by simp)
         ·rw [if_neg c17] at H
          exact absurd H (by simp)
        ·rw [if_neg c16] at H
         have c16b0 : decide (x8_5 < 0) = false := decide_eq_false c16
         clear c16
         by_cases c21 : x8_5 > 0
         ·rw [if_pos c21] at H
          have c21b0 : decide (0 < x8_5) = true := decide_eq_true c21
          clear c21
          by_cases c22 : 0 ≤ x7_1
          ·rw [if_pos c22] at H
           have c22b0 : decide (0 ≤ x7_1) = true := decide_eq_true c22
           clear c22
           by_cases c23 : x7_1 < (l1.length : Int)
           ·rw [if_pos c23] at H
            have c23b0 : decide (x7_1 < (l1.length : Int)) = true := decide_eq_true c23
            clear c23
            by_cases c24 : x5_1.length < 4398046511104
            ·rw [if_pos c24] at H
             have LMc24 := Aside0.mk c24
             clear c24
             obtain ⟨y197, hy197⟩ : ∃ y_ : List (S41), y_ = (x5_1 ++ [(⟨(rd_T41 l1 x7_1).f0, (rd_T41 l1 x7_1).f1⟩ : S41)]) := ⟨_, rfl⟩
             replace H : (erasureref06_merge.l0 kj5 l0 l1 y197 x6_1 (wrap64 (x7_1 + 1))) = some r := by first | (rw [hy197]; with_reducible exact H) | (have H2_ := (Option.bind_some _ _).symm.trans H; rw [hy197]; with_reducible exact H2_) | (have H2_ := (Option.bind_some _ _).symm.trans H; with_reducible exact H2_) | with_reducible exact H | (rw [hy197]; exact H) | exact H
             have Ny197 := Aside0.mk hy197
             clear hy197
             have H' := Aside0.mk H
             clear H
             have p196 : 0 ≤ (x7_1 : Int) := of_decide_eq_true (by first | (with_reducible assumption) | assumption)
             have q196 : x7_1 < (l1.length : Int) := of_decide_eq_true (by first | (with_reducible assumption) | assumption)
             obtain ⟨ad196, A196_0, c196_0, e196, hx196_0, hx196_1, hl196_0, hi196_0⟩ := at_T41 (Kd.V_reads' HO_1.out).2.2 x7_1 p196 q196
             cases e196
             obtain ⟨ce196, hce196, hMe196, hcc196⟩ := Kd.V_get HO_1.out z41 x7_1 p196 (by first | exact q196 | exact of_decide_eq_true (by first | (with_reducible assumption) | assumption) | (have e_ := (Kd.V_reads' HO_1.out).1; omega))
             obtain ⟨ua196_0, uc196_0, rfl, ul196_0, ge196_0⟩ := k41_openF hMe196
             have hv196_0 := hcc196 0 _ rfl
             rw [Nat.add_zero] at hv196_0
             replace hv196_0 := Option.some.inj (hv196_0.symm.trans hx196_0)
             injection hv196_0 with hva_ hvn_ hvc_
             rw [hva_] at ge196_0
             rw [hvc_] at ul196_0
             have HL196_0 := Aside0.mk (show Kd.V k38 38 _ w.heap.size _ _ ((rd_T41 l1 x7_1).f0) from Kd.V_mk ul196_0 ge196_0)
             clear hva_ hvn_ hvc_ ge196_0 ul196_0
             clear hcc196 hce196
             have HR196_0 := Aside0.mk hi196_0
             have HC196_0 := Aside0.mk hl196_0
             clear hi196_0 hl196_0
             replace p196 := eq_true p196
             replace q196 := eq_true q196
             go_wp2_with (first | ((with_reducible refine gate_builtin (b := .append) (xs := #[.tmp 83, .tmp 88]) rfl ?_); (try (refine gate_guard (by rfl) ?_; dsimp only)); at_builtin; refine Kd.N_append k41 (w0 := w) w.heap.size rfl (.tmp 83) (.tmp 88) 24 41 (.agg #[(.slice none 0 0), (.int .i64 0)]) 32 rfl Try.underlying24 info41 rfl (by decide) (by omega) u5 x5_1 (⟨(rd_T41 l1 x7_1).f0, (rd_T41 l1 x7_1).f1⟩ : S41) [.slice A196_0 ((rd_T41 l1 x7_1).f0).length c196_0, .int .i64 ((rd_T41 l1 x7_1).f1)] (fun k_ => ((P0_ k_ ∨ P1_ k_) ∨ w.heap.size ≤ k_)) (fun k_ => ((fun k_ => ((P0_ k_ ∨ P1_ k_) ∨ w.heap.size ≤ k_))) k_ ∧ some k_ ≠ (u5 : Value).ownBlock) rfl rfl ?aP (fun _ hk => hk) ?aF ?aO ?aB ?aS ?aL ?_; (case aP => exact (k41_mkF _ _ (⟨(rd_T41 l1 x7_1).f0, (rd_T41 l1 x7_1).f1⟩ : S41) (Kd.V_reads' (Kd.V_mono (ok' := (fun k_ => ((fun k_ => ((P0_ k_ ∨ P1_ k_) ∨ w.heap.size ≤ k_))) k_ ∧ some k_ ≠ (u5 : Value).ownBlock)) (HL196_0.out) (fun k_ hk => ⟨hk.1, hk.2⟩))).2.1 (Kd.V_F (Kd.V_mono (ok' := (fun k_ => ((fun k_ => ((P0_ k_ ∨ P1_ k_) ∨ w.heap.size ≤ k_))) k_ ∧ some k_ ≠ (u5 : Value).ownBlock)) (HL196_0.out) (fun k_ hk => ⟨hk.1, hk.2⟩))))); (case aB => exact (by repeat (first | (with_reducible first | exact HB.out | apply below_alloc | apply pw_below_drewN | apply below_drew1) | exact HB.out))); (case aF => exact (fun k_ hk => (.inr (Nat.le_trans (below_size (by repeat (first | (with_reducible first | exact HB.out | apply below_alloc | apply pw_below_drewN | apply below_drew1) | exact HB.out))) hk)))); (case aO => exact (by (with_reducible repeat (first | apply Kd.N_alloc | apply Kd.N_drewN | apply Kd.N_drew)); exact HO_5.out)); (case aS => exact (below_size (by repeat (first | (with_reducible first | exact HB.out | apply below_alloc | apply pw_below_drewN | apply below_drew1) | exact HB.out)))); (case aL => have := LMc24.out; omega); intro v198 w25 ho hb hg hat; rw [← Ny197.out] at ho; have n0_ := Aside0.mk (Kd.V_afterv (ok := (fun k_ => ((P0_ k_ ∨ P1_ k_) ∨ w.heap.size ≤ k_))) (by (with_reducible repeat (first | apply Kd.V_alloc | apply Kd.V_drewN | apply Kd.V_drew)); exact HO_0.out) hg hat); have n1_ := Aside0.mk (Kd.V_afterv (ok := (fun k_ => ((P0_ k_ ∨ P1_ k_) ∨ w.heap.size ≤ k_))) (by (with_reducible repeat (first | apply Kd.V_alloc | apply Kd.V_drewN | apply Kd.V_drew)); exact HO_1.out) hg hat); have n2_ := Aside0.mk (Kd.V_afterv (ok := (fun k_ => ((P0_ k_ ∨ P1_ k_) ∨ w.heap.size ≤ k_))) (by (with_reducible repeat (first | apply Kd.V_alloc | apply Kd.V_drewN | apply Kd.V_drew)); exact HL196_0.out) hg hat); have n3_ := Aside0.mk (hb); have n4_ := Aside0.mk (ho); clear HO_0; clear HO_1; clear HL196_0; clear HB; clear HO_5; have HO_0 := n0_; have HO_1 := n1_; have HL196_0 := n2_; have HB := n3_; have HO199 := n4_; clear n0_ n1_ n2_ n3_ n4_; clear ho hb hg hat))
             go_roundg kj5
             case measure => have := HK1.out; have := HJ2.out; have := HJ5.out; omega
             case rel => exact ⟨(y197), (x6_1), (wrap64 (x7_1 + 1)), (by first | rfl | (simp; done) | (simp [*]; done)), (by first | rfl | (simp; done) | (simp [*]; done)), H', ⟨by have := HK1.out; have := HJ2.out; have := HJ5.out; omega⟩, ⟨by (with_reducible repeat (first | apply Kd.V_alloc | apply Kd.V_drewN | apply Kd.V_drew)); exact HO_0.out⟩, ⟨by (with_reducible repeat (first | apply Kd.V_alloc | apply Kd.V_drewN | apply Kd.V_drew)); exact HO_1.out⟩, ⟨by (with_reducible repeat (first | apply Kd.N_alloc | apply Kd.N_drewN | apply Kd.N_drew)); exact HO199.out⟩, ⟨by repeat (first | (with_reducible first | exact HB.out | apply below_alloc | apply pw_below_drewN | apply below_drew1) | exact HB.out)⟩⟩
            ·rw [if_neg c24] at H
             exact absurd H (by simp)
           ·rw [if_neg c23] at H
            exact absurd H (by simp)
          ·rw [if_neg c22] at H
           exact absurd H (by simp)
         ·rw [if_neg c21] at H
          have c21b0 : decide (0 < x8_5) = false := decide_eq_false c21
          clear c21
          by_cases c26 : 0 ≤ x6_1
          ·rw [if_pos c26] at H
           have c26b0 : decide (0 ≤ x6_1) = true := decide_eq_true c26
           clear c26
           by_cases c27 : x6_1 < (l0.length : Int)
           ·rw [if_pos c27] at H
            have c27b0 : decide (x6_1 < (l0.length : Int)) = true := decide_eq_true c27
            clear c27
            by_cases c28 : 0 ≤ x7_1
            ·rw [if_pos c28] at H
             have c28b0 : decide (0 ≤ x7_1) = true := decide_eq_true c28
             clear c28
             by_cases c29 : x7_1 < (l1.length : Int)
             ·rw [if_pos c29] at H
              have c29b0 : decide (x7_1 < (l1.length : Int)) = true := decide_eq_true c29
              clear c29
              by_cases c30 : (wrap64 (((rd_T41 l0 x6_1).f1) + ((rd_T41 l1 x7_1).f1))) = 0
              ·rw [if_pos c30] at H
               have c30b0 : ((wrap64 (((rd_T41 l0 x6_1).f1) + ((rd_T41 l1 x7_1).f1))) == 0) = true := beq_iff_eq.mpr c30
               have c30b1 : ((wrap64 (((rd_T41 l0 x6_1).f1) + ((rd_T41 l1 x7_1).f1))) != 0) = false := bne_eq_false_iff_eq.mpr c30
               clear c30
               have H' := Aside0.mk H
               clear H
               try go_wp2
               have n0_ := Aside0.mk (Kd.V_drew HO_0.out)
               have n1_ := Aside0.mk (Kd.V_drew HO_1.out)
               have n2_ := Aside0.mk (Kd.N_drew HO_5.out)
               have n3_ := Aside0.mk (below_drew1 HB.out)
               clear HO_0
               clear HO_1
               clear HO_5
               clear HB
               have HO_0 := n0_
               have HO_1 := n1_
               have HO_5 := n2_
               have HB := n3_
               clear n0_ n1_ n2_ n3_
               have p200 : 0 ≤ (x6_1 : Int) := of_decide_eq_true (by first | (with_reducible assumption) | assumption)
               have q200 : x6_1 < (l0.length : Int) := of_decide_eq_true (by first | (with_reducible assumption) | assumption)
               obtain ⟨ad200, A200_0, c200_0, e200, hx200_0, hx200_1, hl200_0, hi200_0⟩ := at_T41 (Kd.V_reads' HO_0.out).2.2 x6_1 p200 q200
               cases e200
               obtain ⟨ce200, hce200, hMe200, hcc200⟩ := Kd.V_get HO_0.out z41 x6_1 p200 (by first | exact q200 | exact of_decide_eq_true (by first | (with_reducible assumption) | assumption) | (have e_ := (Kd.V_reads' HO_0.out).1; omega))
               obtain ⟨ua200_0, uc200_0, rfl, ul200_0, ge200_0⟩ := k41_openF hMe200
               have hv200_0 := hcc200 0 _ rfl
               rw [Nat.add_zero] at hv200_0
               replace hv200_0 := Option.some.inj (hv200_0.symm.trans hx200_0)
               injection hv200_0 with hva_ hvn_ hvc_
               rw [hva_] at ge200_0
               rw [hvc_] at ul200_0
               have HL200_0 := Aside0.mk (show Kd.V k38 38 _ w.heap.size _ _ ((rd_T41 l0 x6_1).f0) from Kd.V_mk ul200_0 ge200_0)
               clear hva_ hvn_ hvc_ ge200_0 ul200_0
               clear hcc200 hce200
               have HR200_0 := Aside0.mk hi200_0
               have HC200_0 := Aside0.mk hl200_0
               clear hi200_0 hl200_0
               replace p200 := eq_true p200
               replace q200 := eq_true q200
               have p201 : 0 ≤ (x7_1 : Int) := of_decide_eq_true (by first | (with_reducible assumption) | assumption)
               have q201 : x7_1 < (l1.length : Int) := of_decide_eq_true (by first | (with_reducible assumption) | assumption)
               obtain ⟨ad201, A201_0, c201_0, e201, hx201_0, hx201_1, hl201_0, hi201_0⟩ := at_T41 (Kd.V_reads' HO_1.out).2.2 x7_1 p201 q201
               cases e201
               obtain ⟨ce201, hce201, hMe201, hcc201⟩ := Kd.V_get HO_1.out z41 x7_1 p201 (by first | exact q201 | exact of_decide_eq_true (by first | (with_reducible assumption) | assumption) | (have e_ := (Kd.V_reads' HO_1.out).1; omega))
               obtain ⟨ua201_0, uc201_0, rfl, ul201_0, ge201_0⟩ := k41_openF hMe201
               have hv201_0 := hcc201 0 _ rfl
               rw [Nat.add_zero] at hv201_0
               replace hv201_0 := Option.some.inj (hv201_0.symm.trans hx201_0)
               injection hv201_0 with hva_ hvn_ hvc_
               rw [hva_] at ge201_0
               rw [hvc_] at ul201_0
               have HL201_0 := Aside0.mk (show Kd.V k38 38 _ w.heap.size _ _ ((rd_T41 l1 x7_1).f0) from Kd.V_mk ul201_0 ge201_0)
               clear hva_ hvn_ hvc_ ge201_0 ul201_0
               clear hcc201 hce201
               have HR201_0 := Aside0.mk hi201_0
               have HC201_0 := Aside0.mk hl201_0
               clear hi201_0 hl201_0
               replace p201 := eq_true p201
               replace q201 := eq_true q201
               refine start_ (n := 12) (S := fun w' => w'.cell? (ad200.add ((x6_1).toNat * 2)) = some (.slice A200_0 ((rd_T41 l0 x6_1).f0).length c200_0) ∧ w'.cell? ⟨(ad200.add ((x6_1).toNat * 2)).block, (ad200.add ((x6_1).toNat * 2)).off + 1, none⟩ = some (.int .i64 ((rd_T41 l0 x6_1).f1)) ∧ w'.cell? (ad201.add ((x7_1).toNat * 2)) = some (.slice A201_0 ((rd_T41 l1 x7_1).f0).length c201_0) ∧ w'.cell? ⟨(ad201.add ((x7_1).toNat * 2)).block, (ad201.add ((x7_1).toNat * 2)).off + 1, none⟩ = some (.int .i64 ((rd_T41 l1 x7_1).f1))) (ds := []) #[false, false, false, false, false, false, false, false, false, false, false, false] (by kernel_rfl) rfl rfl ⟨hx200_0, hx200_1, hx201_0, hx201_1⟩ (fun hHeld => ?_); refine with_tabW erasureref06_merge.tab10 erasureref06_merge.bits10 (fun HT_ HW_ => ?_)
               generalize wc.drew = w31 at HO_0 HO_1 HO_5 HB HL200_0 HL201_0 HR200_0 HR201_0 hx200_0 hx200_1 hx201_0 hx201_1 hHeld ⊢
               refine pu (i := 0) (N := some 41) (bl 12 1) (any_of HT_.out (by kernel_rfl)) ?_
               refine pu (i := 1) (N := some 42) (bl 12 3) (any_of HT_.out (by kernel_rfl)) ?_
               refine pu (i := 2) (N := some 43) (bl 12 7) (any_of HT_.out (by kernel_rfl)) ?_
               refine pu (i := 3) (N := some 44) (bl 12 15) (any_of HT_.out (by kernel_rfl)) ?_
               refine pu (i := 5) (N := some 46) (bl 12 47) (any_of HT_.out (by kernel_rfl)) ?_
               refine pu (i := 6) (N := some 47) (bl 12 111) (any_of HT_.out (by kernel_rfl)) ?_
               refine pu (i := 7) (N := some 48) (bl 12 239) (any_of HT_.out (by kernel_rfl)) ?_
               refine pu (i := 8) (N := some 49) (bl 12 495) (any_of HT_.out (by kernel_rfl)) ?_
               refine ta (i := 4) (N := some 45) (bl 12 511) (take_ofW HT_.out HW_.out (by kernel_rfl)) hHeld ?_
               refine ta (i := 9) (N := some 50) (bl 12 1023) (take_ofW HT_.out HW_.out (by kernel_rfl)) hHeld ?_
               refine pu (i := 10) (N := some 51) (bl 12 2047) (any_of HT_.out (by kernel_rfl)) ?_
               refine pu (i := 11) (N := some 9) (bl 12 4095) (any_of HT_.out (by kernel_rfl)) ?_
               refine done_ (done_of HT_.out (by kernel_rfl)) ?_
               try go_wp2
               go_roundg kj5
               case measure => have := HK1.out; have := HJ2.out; have := HJ5.out; omega
               case rel => exact ⟨(x5_1), (wrap64 (x6_1 + 1)), (wrap64 (x7_1 + 1)), (by first | rfl | (simp; done) | (simp [*]; done)), (by first | rfl | (simp; done) | (simp [*]; done)), H', ⟨by have := HK1.out; have := HJ2.out; have := HJ5.out; omega⟩, ⟨by (with_reducible repeat (first | apply Kd.V_alloc | apply Kd.V_drewN | apply Kd.V_drew)); exact HO_0.out⟩, ⟨by (with_reducible repeat (first | apply Kd.V_alloc | apply Kd.V_drewN | apply Kd.V_drew)); exact HO_1.out⟩, ⟨by (with_reducible repeat (first | apply Kd.N_alloc | apply Kd.N_drewN | apply Kd.N_drew)); exact HO_5.out⟩, ⟨by repeat (first | (with_reducible first | exact HB.out | apply below_alloc | apply pw_below_drewN | apply below_drew1) | exact HB.out)⟩⟩
              ·rw [if_neg c30] at H
               have c30b0 : ((wrap64 (((rd_T41 l0 x6_1).f1) + ((rd_T41 l1 x7_1).f1))) == 0) = false := beq_eq_false_iff_ne.mpr c30
               have c30b1 : ((wrap64 (((rd_T41 l0 x6_1).f1) + ((rd_T41 l1 x7_1).f1))) != 0) = true := bne_iff_ne.mpr c30
               by_cases c32 : x5_1.length < 4398046511104
               ·rw [if_pos c32] at H
                have LMc32 := Aside0.mk c32
                clear c32
                obtain ⟨y203, hy203⟩ : ∃ y_ : List (S41), y_ = (x5_1 ++ [(⟨(rd_T41 l0 x6_1).f0, wrap64 (((rd_T41 l0 x6_1).f1) + ((rd_T41 l1 x7_1).f1))⟩ : S41)]) := ⟨_, rfl⟩
                replace H : (erasureref06_merge.l0 kj5 l0 l1 y203 (wrap64 (x6_1 + 1)) (wrap64 (x7_1 + 1))) = some r := by first | (rw [hy203]; with_reducible exact H) | (have H2_ := (Option.bind_some _ _).symm.trans H; rw [hy203]; with_reducible exact H2_) | (have H2_ := (Option.bind_some _ _).symm.trans H; with_reducible exact H2_) | with_reducible exact H | (rw [hy203]; exact H) | exact H
                have Ny203 := Aside0.mk hy203
                clear hy203
                have H' := Aside0.mk H
                clear H
                try go_wp2
                have n0_ := Aside0.mk (Kd.V_drew HO_0.out)
                have n1_ := Aside0.mk (Kd.V_drew HO_1.out)
                have n2_ := Aside0.mk (Kd.N_drew HO_5.out)
                have n3_ := Aside0.mk (below_drew1 HB.out)
                clear HO_0
                clear HO_1
                clear HO_5
                clear HB
                have HO_0 := n0_
                have HO_1 := n1_
                have HO_5 := n2_
                have HB := n3_
                clear n0_ n1_ n2_ n3_
                have p200 : 0 ≤ (x6_1 : Int) := of_decide_eq_true (by first | (with_reducible assumption) | assumption)
                have q200 : x6_1 < (l0.length : Int) := of_decide_eq_true (by first | (with_reducible assumption) | assumption)
                obtain ⟨ad200, A200_0, c200_0, e200, hx200_0, hx200_1, hl200_0, hi200_0⟩ := at_T41 (Kd.V_reads' HO_0.out).2.2 x6_1 p200 q200
                cases e200
                obtain ⟨ce200, hce200, hMe200, hcc200⟩ := Kd.V_get HO_0.out z41 x6_1 p200 (by first | exact q200 | exact of_decide_eq_true (by first | (with_reducible assumption) | assumption) | (have e_ := (Kd.V_reads' HO_0.out).1; omega))
                obtain ⟨ua200_0, uc200_0, rfl, ul200_0, ge200_0⟩ := k41_openF hMe200
                have hv200_0 := hcc200 0 _ rfl
                rw [Nat.add_zero] at hv200_0
                replace hv200_0 := Option.some.inj (hv200_0.symm.trans hx200_0)
                injection hv200_0 with hva_ hvn_ hvc_
                rw [hva_] at ge200_0
                rw [hvc_] at ul200_0
                have HL200_0 := Aside0.mk (show Kd.V k38 38 _ w.heap.size _ _ ((rd_T41 l0 x6_1).f0) from Kd.V_mk ul200_0 ge200_0)
                clear hva_ hvn_ hvc_ ge200_0 ul200_0
                clear hcc200 hce200
                have HR200_0 := Aside0.mk hi200_0
                have HC200_0 := Aside0.mk hl200_0
                clear hi200_0 hl200_0
                replace p200 := eq_true p200
                replace q200 := eq_true q200
                have p201 : 0 ≤ (x7_1 : Int) := of_decide_eq_true (by first | (with_reducible assumption) | assumption)
                have q201 : x7_1 < (l1.length : Int) := of_decide_eq_true (by first | (with_reducible assumption) | assumption)
                obtain ⟨ad201, A201_0, c201_0, e201, hx201_0, hx201_1, hl201_0, hi201_0⟩ := at_T41 (Kd.V_reads' HO_1.out).2.2 x7_1 p201 q201
                cases e201
                obtain ⟨ce201, hce201, hMe201, hcc201⟩ := Kd.V_get HO_1.out z41 x7_1 p201 (by first | exact q201 | exact of_decide_eq_true (by first | (with_reducible assumption) | assumption) | (have e_ := (Kd.V_reads' HO_1.out).1; omega))
                obtain ⟨ua201_0, uc201_0, rfl, ul201_0, ge201_0⟩ := k41_openF hMe201
                have hv201_0 := hcc201 0 _ rfl
                rw [Nat.add_zero] at hv201_0
                replace hv201_0 := Option.some.inj (hv201_0.symm.trans hx201_0)
                injection hv201_0 with hva_ hvn_ hvc_
                rw [hva_] at ge201_0
                rw [hvc_] at ul201_0
                have HL201_0 := Aside0.mk (show Kd.V k38 38 _ w.heap.size _ _ ((rd_T41 l1 x7_1).f0) from Kd.V_mk ul201_0 ge201_0)
                clear hva_ hvn_ hvc_ ge201_0 ul201_0
                clear hcc201 hce201
                have HR201_0 := Aside0.mk hi201_0
                have HC201_0 := Aside0.mk hl201_0
                clear hi201_0 hl201_0
                replace p201 := eq_true p201
                replace q201 := eq_true q201
                refine start_ (n := 12) (S := fun w' => w'.cell? (ad200.add ((x6_1).toNat * 2)) = some (.slice A200_0 ((rd_T41 l0 x6_1).f0).length c200_0) ∧ w'.cell? ⟨(ad200.add ((x6_1).toNat * 2)).block, (ad200.add ((x6_1).toNat * 2)).off + 1, none⟩ = some (.int .i64 ((rd_T41 l0 x6_1).f1)) ∧ w'.cell? (ad201.add ((x7_1).toNat * 2)) = some (.slice A201_0 ((rd_T41 l1 x7_1).f0).length c201_0) ∧ w'.cell? ⟨(ad201.add ((x7_1).toNat * 2)).block, (ad201.add ((x7_1).toNat * 2)).off + 1, none⟩ = some (.int .i64 ((rd_T41 l1 x7_1).f1))) (ds := []) #[false, false, false, false, false, false, false, false, false, false, false, false] (by kernel_rfl) rfl rfl ⟨hx200_0, hx200_1, hx201_0, hx201_1⟩ (fun hHeld => ?_); refine with_tabW erasureref06_merge.tab10 erasureref06_merge.bits10 (fun HT_ HW_ => ?_)
                generalize wc.drew = w33 at HO_0 HO_1 HO_5 HB HL200_0 HL201_0 HR200_0 HR201_0 hx200_0 hx200_1 hx201_0 hx201_1 hHeld ⊢
                refine pu (i := 0) (N := some 41) (bl 12 1) (any_of HT_.out (by kernel_rfl)) ?_
                refine pu (i := 1) (N := some 42) (bl 12 3) (any_of HT_.out (by kernel_rfl)) ?_
                refine pu (i := 2) (N := some 43) (bl 12 7) (any_of HT_.out (by kernel_rfl)) ?_
                refine pu (i := 3) (N := some 44) (bl 12 15) (any_of HT_.out (by kernel_rfl)) ?_
                refine pu (i := 5) (N := some 46) (bl 12 47) (any_of HT_.out (by kernel_rfl)) ?_
                refine pu (i := 6) (N := some 47) (bl 12 111) (any_of HT_.out (by kernel_rfl)) ?_
                refine pu (i := 7) (N := some 48) (bl 12 239) (any_of HT_.out (by kernel_rfl)) ?_
                refine pu (i := 8) (N := some 49) (bl 12 495) (any_of HT_.out (by kernel_rfl)) ?_
                refine ta (i := 4) (N := some 45) (bl 12 511) (take_ofW HT_.out HW_.out (by kernel_rfl)) hHeld ?_
                refine ta (i := 9) (N := some 50) (bl 12 1023) (take_ofW HT_.out HW_.out (by kernel_rfl)) hHeld ?_
                refine pu (i := 10) (N := some 51) (bl 12 2047) (any_of HT_.out (by kernel_rfl)) ?_
                refine pu (i := 11) (N := some 9) (bl 12 4095) (any_of HT_.out (by kernel_rfl)) ?_
                refine done_ (done_of HT_.out (by kernel_rfl)) ?_
                have p202 : 0 ≤ (x6_1 : Int) := of_decide_eq_true (by first | (with_reducible assumption) | assumption)
                have q202 : x6_1 < (l0.length : Int) := of_decide_eq_true (by first | (with_reducible assumption) | assumption)
                obtain ⟨ad202, A202_0, c202_0, e202, hx202_0, hx202_1, hl202_0, hi202_0⟩ := at_T41 (Kd.V_reads' HO_0.out).2.2 x6_1 p202 q202
                obtain rfl : ad200 = ad202 := (by injection e202)
                obtain ⟨ce202, hce202, hMe202, hcc202⟩ := Kd.V_get HO_0.out z41 x6_1 p202 (by first | exact q202 | exact of_decide_eq_true (by first | (with_reducible assumption) | assumption) | (have e_ := (Kd.V_reads' HO_0.out).1; omega))
                obtain ⟨ua202_0, uc202_0, rfl, ul202_0, ge202_0⟩ := k41_openF hMe202
                have hv202_0 := hcc202 0 _ rfl
                rw [Nat.add_zero] at hv202_0
                replace hv202_0 := Option.some.inj (hv202_0.symm.trans hx202_0)
                injection hv202_0 with hva_ hvn_ hvc_
                rw [hva_] at ge202_0
                rw [hvc_] at ul202_0
                have HL202_0 := Aside0.mk (show Kd.V k38 38 _ w.heap.size _ _ ((rd_T41 l0 x6_1).f0) from Kd.V_mk ul202_0 ge202_0)
                clear hva_ hvn_ hvc_ ge202_0 ul202_0
                clear hcc202 hce202
                have HR202_0 := Aside0.mk hi202_0
                have HC202_0 := Aside0.mk hl202_0
                clear hi202_0 hl202_0
                replace p202 := eq_true p202
                replace q202 := eq_true q202
                have ea_ := Option.some.inj (hx200_0.symm.trans hx202_0)
                injection ea_ with ea_ en_ ec_
                subst ea_
                subst ec_
                clear en_
                try go_wp2_with (first | ((with_reducible refine gate_builtin (b := .append) (xs := #[.tmp 54, .tmp 62]) rfl ?_); (try (refine gate_guard (by rfl) ?_; dsimp only)); at_builtin; refine Kd.N_append k41 (w0 := w) w.heap.size rfl (.tmp 54) (.tmp 62) 24 41 (.agg #[(.slice none 0 0), (.int .i64 0)]) 32 rfl Try.underlying24 info41 rfl (by decide) (by omega) u5 x5_1 (⟨(rd_T41 l0 x6_1).f0, wrap64 (((rd_T41 l0 x6_1).f1) + ((rd_T41 l1 x7_1).f1))⟩ : S41) [.slice A200_0 ((rd_T41 l0 x6_1).f0).length c200_0, .int .i64 (wrap64 (((rd_T41 l0 x6_1).f1) + ((rd_T41 l1 x7_1).f1)))] (fun k_ => ((P0_ k_ ∨ P1_ k_) ∨ w.heap.size ≤ k_)) (fun k_ => ((fun k_ => ((P0_ k_ ∨ P1_ k_) ∨ w.heap.size ≤ k_))) k_ ∧ some k_ ≠ (u5 : Value).ownBlock) rfl rfl ?aP (fun _ hk => hk) ?aF ?aO ?aB ?aS ?aL ?_; (case aP => exact (k41_mkF _ _ (⟨(rd_T41 l0 x6_1).f0, wrap64 (((rd_T41 l0 x6_1).f1) + ((rd_T41 l1 x7_1).f1))⟩ : S41) (Kd.V_reads' (Kd.V_mono (ok' := (fun k_ => ((fun k_ => ((P0_ k_ ∨ P1_ k_) ∨ w.heap.size ≤ k_))) k_ ∧ some k_ ≠ (u5 : Value).ownBlock)) (HL202_0.out) (fun k_ hk => ⟨hk.1, hk.2⟩))).2.1 (Kd.V_F (Kd.V_mono (ok' := (fun k_ => ((fun k_ => ((P0_ k_ ∨ P1_ k_) ∨ w.heap.size ≤ k_))) k_ ∧ some k_ ≠ (u5 : Value).ownBlock)) (HL202_0.out) (fun k_ hk => ⟨hk.1, hk.2⟩))))); (case aB => exact (by repeat (first | (with_reducible first | exact HB.out | apply below_alloc | apply pw_below_drewN | apply below_drew1) | exact HB.out))); (case aF => exact (fun k_ hk => (.inr (Nat.le_trans (below_size (by repeat (first | (with_reducible first | exact HB.out | apply below_alloc | apply pw_below_drewN | apply below_drew1) | exact HB.out))) hk)))); (case aO => exact (by (with_reducible repeat (first | apply Kd.N_alloc | apply Kd.N_drewN | apply Kd.N_drew)); exact HO_5.out)); (case aS => exact (below_size (by repeat (first | (with_reducible first | exact HB.out | apply below_alloc | apply pw_below_drewN | apply below_drew1) | exact HB.out)))); (case aL => have := LMc32.out; omega); intro v204 w34 ho hb hg hat; rw [← Ny203.out] at ho; have n0_ := Aside0.mk (Kd.V_afterv (ok := (fun k_ => ((P0_ k_ ∨ P1_ k_) ∨ w.heap.size ≤ k_))) (by (with_reducible repeat (first | apply Kd.V_alloc | apply Kd.V_drewN | apply Kd.V_drew)); exact HO_0.out) hg hat); have n1_ := Aside0.mk (Kd.V_afterv (ok := (fun k_ => ((P0_ k_ ∨ P1_ k_) ∨ w.heap.size ≤ k_))) (by (with_reducible repeat (first | apply Kd.V_alloc | apply Kd.V_drewN | apply Kd.V_drew)); exact HO_1.out) hg hat); have n2_ := Aside0.mk (Kd.V_afterv (ok := (fun k_ => ((P0_ k_ ∨ P1_ k_) ∨ w.heap.size ≤ k_))) (by (with_reducible repeat (first | apply Kd.V_alloc | apply Kd.V_drewN | apply Kd.V_drew)); exact HL200_0.out) hg hat); have n3_ := Aside0.mk (Kd.V_afterv (ok := (fun k_ => ((P0_ k_ ∨ P1_ k_) ∨ w.heap.size ≤ k_))) (by (with_reducible repeat (first | apply Kd.V_alloc | apply Kd.V_drewN | apply Kd.V_drew)); exact HL201_0.out) hg hat); have n4_ := Aside0.mk (Kd.V_afterv (ok := (fun k_ => ((P0_ k_ ∨ P1_ k_) ∨ w.heap.size ≤ k_))) (by (with_reducible repeat (first | apply Kd.V_alloc | apply Kd.V_drewN | apply Kd.V_drew)); exact HL202_0.out) hg hat); have n5_ := Aside0.mk (hb); have n6_ := Aside0.mk (ho); clear HO_0; clear HO_1; clear HL200_0; clear HL201_0; clear HL202_0; clear HB; clear HO_5; have HO_0 := n0_; have HO_1 := n1_; have HL200_0 := n2_; have HL201_0 := n3_; have HL202_0 := n4_; have HB := n5_; have HO205 := n6_; clear n0_ n1_ n2_ n3_ n4_ n5_ n6_; clear ho hb hg hat))
                go_roundg kj5
                case measure => have := HK1.out; have := HJ2.out; have := HJ5.out; omega
                case rel => exact ⟨(y203), (wrap64 (x6_1 + 1)), (wrap64 (x7_1 + 1)), (by first | rfl | (simp; done) | (simp [*]; done)), (by first | rfl | (simp; done) | (simp [*]; done)), H', ⟨by have := HK1.out; have := HJ2.out; have := HJ5.out; omega⟩, ⟨by (with_reducible repeat (first | apply Kd.V_alloc | apply Kd.V_drewN | apply Kd.V_drew)); exact HO_0.out⟩, ⟨by (with_reducible repeat (first | apply Kd.V_alloc | apply Kd.V_drewN | apply Kd.V_drew)); exact HO_1.out⟩, ⟨by (with_reducible repeat (first | apply Kd.N_alloc | apply Kd.N_drewN | apply Kd.N_drew)); exact HO205.out⟩, ⟨by repeat (first | (with_reducible first | exact HB.out | apply below_alloc | apply pw_below_drewN | apply below_drew1) | exact HB.out)⟩⟩
               ·rw [if_neg c32] at H
                exact absurd H (by simp)
             ·rw [if_neg c29] at H
              exact absurd H (by simp)
            ·rw [if_neg c28] at H
             exact absurd H (by simp)
           ·rw [if_neg c27] at H
            exact absurd H (by simp)
          ·rw [if_neg c26] at H
           exact absurd H (by simp)
     ·replace c5 := Bool.eq_false_iff.mpr c5
      subst c5
      have H1 : (some x5_1) = some r := by rw [if_neg (show ¬ (false = true) by decide)] at H; exact H
      clear H
      have H := H1
      clear H1
      obtain rfl := Option.some.inj H
      go_wp2
      go_ret
      exact ⟨_, by first | rfl | (simp [errW_none, errW_some] <;> rfl) | (simp [*, errW_none, errW_some] <;> rfl), by (with_reducible repeat (first | apply Kd.N_alloc | apply Kd.N_drewN | apply Kd.N_drew)); exact HO_5.out, by repeat (first | (with_reducible first | exact HB.out | apply below_alloc | apply pw_below_drewN | apply below_drew1) | exact HB.out)⟩
end Go.Proofs.Ytjhnpaenhdbhpaa.P
namespace Go.Proofs.Ytjhnpaenhdbhpaa.P
open Go.RowKit Go.Proofs.YtjhnpaenhdbhpaaW.PrintWords Go.Proofs.YtjhnpaenhdbhpaaW.PrintLast Go.Proofs.YtjhnpaenhdbhpaaW.PrintMore
attribute [local go_sem] max2_int min2_int max_two min_two max_three min_three max_four min_four
set_option linter.unusedVariables false
set_option linter.unusedSimpArgs false
def erasureref06_sort.f : Nat → List (S41) → Option ((List (S41)))
 | 0, _ => none
 | k + 1, l0 => if (l0.length : Int) = 0 then (some ([] : List (S41))) else (if (l0.length : Int) = 1 then (if 0 < (l0.length : Int) then (if ((rd_T41 l0 0).f1) = 0 then (some ([] : List (S41))) else (some (([(⟨(rd_T41 l0 0).f0, (rd_T41 l0 0).f1⟩ : S41)] : List (S41))))) else (none)) else (if 0 ≤ (wrap64 ((l0.length : Int) / 2)) then (if (wrap64 ((l0.length : Int) / 2)) ≤ (l0.length : Int) then ((erasureref06_sort.f k (l0.take ((wrap64 ((l0.length : Int) / 2)) : Int).toNat)).bind fun t216 => ((erasureref06_sort.f k (l0.drop ((wrap64 ((l0.length : Int) / 2)) : Int).toNat)).bind fun t224 => ((erasureref06_merge.f k t216 t224).bind fun t227 => (some t227)))) else (none)) else (none)))
def erasureref06_sort.T7 : Bool × List (List Nat × List Nat) := (true, [([], []), ([], []), ([1], [1]), ([2], [2]), ([0, 3], [0, 3]), ([4], [4]), ([], []), ([], []), ([7], [7]), ([8], [8]), ([6, 9], [6, 9]), ([10, 5], [10]), ([5, 11, 11], [5, 11]), ([12, 12, 0, 1, 2, 3, 4, 5, 6, 7, 8, 9, 10, 11, 12], [12])])
def erasureref06_sort.B7 : List Nat := [0, 0, 2, 6, 15, 31, 0, 0, 128, 384, 960, 2047, 4095, 8191]
theorem erasureref06_sort.tab7 : rtab .any (opsOf Try.f34 7) = erasureref06_sort.T7 := by kernel_rfl
theorem erasureref06_sort.bits7 : waitsOk erasureref06_sort.T7.2 erasureref06_sort.B7 = true := by kernel_rfl
set_option maxHeartbeats 8000000 in
set_option maxRecDepth 100000 in
theorem erasureref06_sort.calls (k : Nat) : ∀ (P0_ : Nat → Prop) (A0 : Option Addr) (c0 : Nat) (l0 : List (S41)) (r : List (S41)) (w : World) (hs0 : Kd.V k41 41 w w.heap.size (fun k_ => P0_ k_) (.slice A0 l0.length c0) l0) (h : erasureref06_sort.f k l0 = some r),
  Calls Try.prog 34 #[.slice A0 l0.length c0] w fun e w' => ∃ v0_ : Value, e = .returned (v0_) ∧ Kd.N k41 41 w' w.heap.size (fun k_ => (P0_ k_ ∨ w.heap.size ≤ k_)) v0_ r ∧ Below w.heap.size w w' := by
 induction k using Nat.strongRecOn with
 | _ k ih =>
 intro P0_ A0 c0 l0 r w hs0 h
 cases k with
 | zero => exact absurd h (by simp [erasureref06_sort.f])
 | succ k =>
 simp only [erasureref06_sort.f] at h
 have hu41 := Try.underlying41
 have HO0 := Aside0.mk (show Kd.V k41 41 w w.heap.size (fun k_ => (P0_ k_ ∨ w.heap.size ≤ k_)) (.slice A0 l0.length c0) l0 from Kd.V_mono hs0 (fun k_ hk => .inl hk))
 have HB := Aside0.mk (Below.refl w.heap.size w)
 have H : (if (l0.length : Int) = 0 then (some ([] : List (S41))) else (if (l0.length : Int) = 1 then (if 0 < (l0.length : Int) then (if ((rd_T41 l0 0).f1) = 0 then (some ([] : List (S41))) else (some (([(⟨(rd_T41 l0 0).f0, (rd_T41 l0 0).f1⟩ : S41)] : List (S41))))) else (none)) else (if 0 ≤ (wrap64 ((l0.length : Int) / 2)) then (if (wrap64 ((l0.length : Int) / 2)) ≤ (l0.length : Int) then ((erasureref06_sort.f k (l0.take ((wrap64 ((l0.length : Int) / 2)) : Int).toNat)).bind fun t216 => ((erasureref06_sort.f k (l0.drop ((wrap64 ((l0.length : Int) / 2)) : Int).toNat)).bind fun t224 => ((erasureref06_merge.f k t216 t224).bind fun t227 => (some t227)))) else (none)) else (none)))) = some r := h
 clear h
 by_cases c2 : (l0.length : Int) = 0
 ·rw [if_pos c2] at H
  have c2b0 : ((l0.length : Int) == 0) = true := beq_iff_eq.mpr c2
  have c2b1 : ((l0.length : Int) != 0) = false := bne_eq_false_iff_eq.mpr c2
  clear c2
  obtain rfl := Option.some.inj H
  go_enter Try.func34, Try.ntmps34
  go_wp2
  go_ret
  exact ⟨_, by first | rfl | (simp [errW_none, errW_some] <;> rfl) | (simp [*, errW_none, errW_some] <;> rfl), by first | exact Kd.S_nil _ _ _ _ _ | exact Kd.N_nil _ _ _ _ _ | exact Kd.V_nil _ _ _ _ _ | exact Kd.Q_nil _ _ _ _ _ | exact Kd.R_nil _ _ _ _ _, by repeat (first | (with_reducible first | exact HB.out | apply below_alloc | apply pw_below_drewN | apply below_drew1) | exact HB.out)⟩
 ·rw [if_neg c2] at H
  have c2b0 : ((l0.length : Int) == 0) = false := beq_eq_false_iff_ne.mpr c2
  have c2b1 : ((l0.length : Int) != 0) = true := bne_iff_ne.mpr c2
  have c2b2 : ¬ (l0 = []) := fun h_ => c2 (by rw [h_]; rfl)
  by_cases c3 : (l0.length : Int) = 1
  ·rw [if_pos c3] at H
   have c3b0 : ((l0.length : Int) == 1) = true := beq_iff_eq.mpr c3
   have c3b1 : ((l0.length : Int) != 1) = false := bne_eq_false_iff_eq.mpr c3
   clear c3
   by_cases c4 : 0 < (l0.length : Int)
   ·rw [if_pos c4] at H
    have c4b0 : decide (0 < (l0.length : Int)) = true := decide_eq_true c4
    have c4b1 : decide (0 < l0.length) = true := decide_eq_true (by omega)
    clear c4
    by_cases c5 : ((rd_T41 l0 0).f1) = 0
    ·rw [if_pos c5] at H
     have c5b0 : (((rd_T41 l0 0).f1) == 0) = true := beq_iff_eq.mpr c5
     have c5b1 : (((rd_T41 l0 0).f1) != 0) = false := bne_eq_false_iff_eq.mpr c5
     clear c5
     obtain rfl := Option.some.inj H
     have p206 : 0 ≤ (0 : Int) := (by omega)
     have q206 : 0 < (l0.length : Int) := of_decide_eq_true (by first | (with_reducible assumption) | assumption)
     obtain ⟨ad206, A206_0, c206_0, e206, hx206_0, hx206_1, hl206_0, hi206_0⟩ := at_T41 (Kd.V_reads' HO0.out).2.2 0 p206 q206
     cases e206
     obtain ⟨ce206, hce206, hMe206, hcc206⟩ := Kd.V_get HO0.out z41 0 p206 (by first | exact q206 | exact of_decide_eq_true (by first | (with_reducible assumption) | assumption) | (have e_ := (Kd.V_reads' HO0.out).1; omega))
     obtain ⟨ua206_0, uc206_0, rfl, ul206_0, ge206_0⟩ := k41_openF hMe206
     have hv206_0 := hcc206 0 _ rfl
     rw [Nat.add_zero] at hv206_0
     replace hv206_0 := Option.some.inj (hv206_0.symm.trans hx206_0)
     injection hv206_0 with hva_ hvn_ hvc_
     rw [hva_] at ge206_0
     rw [hvc_] at ul206_0
     have HL206_0 := Aside0.mk (show Kd.V k38 38 _ w.heap.size _ _ ((rd_T41 l0 0).f0) from Kd.V_mk ul206_0 ge206_0)
     clear hva_ hvn_ hvc_ ge206_0 ul206_0
     clear hcc206 hce206
     have qi206 : (0 < l0.length) = True := eq_true (by omega)
     (try rw [show ((0 : Int)).toNat = 0 from rfl] at hx206_0)
     (try rw [show 0 * 2 = 0 from rfl] at hx206_0)
     (try rw [Addr.add_zero'] at hx206_0)
     (try rw [show ((0 : Int)).toNat = 0 from rfl] at hx206_1)
     (try rw [show 0 * 2 = 0 from rfl] at hx206_1)
     (try rw [Addr.add_zero'] at hx206_1)
     have HR206_0 := Aside0.mk hi206_0
     have HC206_0 := Aside0.mk hl206_0
     clear hi206_0 hl206_0
     replace p206 := eq_true p206
     replace q206 := eq_true q206
     go_enter Try.func34, Try.ntmps34
     go_wp2
     go_ret
     exact ⟨_, by first | rfl | (simp [errW_none, errW_some] <;> rfl) | (simp [*, errW_none, errW_some] <;> rfl), by first | exact Kd.S_nil _ _ _ _ _ | exact Kd.N_nil _ _ _ _ _ | exact Kd.V_nil _ _ _ _ _ | exact Kd.Q_nil _ _ _ _ _ | exact Kd.R_nil _ _ _ _ _, by repeat (first | (with_reducible first | exact HB.out | apply below_alloc | apply pw_below_drewN | apply below_drew1) | exact HB.out)⟩
    ·rw [if_neg c5] at H
     have c5b0 : (((rd_T41 l0 0).f1) == 0) = false := beq_eq_false_iff_ne.mpr c5
     have c5b1 : (((rd_T41 l0 0).f1) != 0) = true := bne_iff_ne.mpr c5
     obtain ⟨y208, hy208⟩ : ∃ y_ : List (S41), y_ = (([(⟨(rd_T41 l0 0).f0, (rd_T41 l0 0).f1⟩ : S41)] : List (S41))) := ⟨_, rfl⟩
     replace H : (some y208) = some r := by first | (rw [hy208]; with_reducible exact H) | (have H2_ := (Option.bind_some _ _).symm.trans H; rw [hy208]; with_reducible exact H2_) | (have H2_ := (Option.bind_some _ _).symm.trans H; with_reducible exact H2_) | with_reducible exact H | (rw [hy208]; exact H) | exact H
     have Ny208 := Aside0.mk hy208
     clear hy208
     obtain rfl := Option.some.inj H
     have p206 : 0 ≤ (0 : Int) := (by omega)
     have q206 : 0 < (l0.length : Int) := of_decide_eq_true (by first | (with_reducible assumption) | assumption)
     obtain ⟨ad206, A206_0, c206_0, e206, hx206_0, hx206_1, hl206_0, hi206_0⟩ := at_T41 (Kd.V_reads' HO0.out).2.2 0 p206 q206
     cases e206
     obtain ⟨ce206, hce206, hMe206, hcc206⟩ := Kd.V_get HO0.out z41 0 p206 (by first | exact q206 | exact of_decide_eq_true (by first | (with_reducible assumption) | assumption) | (have e_ := (Kd.V_reads' HO0.out).1; omega))
     obtain ⟨ua206_0, uc206_0, rfl, ul206_0, ge206_0⟩ := k41_openF hMe206
     have hv206_0 := hcc206 0 _ rfl
     rw [Nat.add_zero] at hv206_0
     replace hv206_0 := Option.some.inj (hv206_0.symm.trans hx206_0)
     injection hv206_0 with hva_ hvn_ hvc_
     rw [hva_] at ge206_0
     rw [hvc_] at ul206_0
     have HL206_0 := Aside0.mk (show Kd.V k38 38 _ w.heap.size _ _ ((rd_T41 l0 0).f0) from Kd.V_mk ul206_0 ge206_0)
     clear hva_ hvn_ hvc_ ge206_0 ul206_0
     clear hcc206 hce206
     have qi206 : (0 < l0.length) = True := eq_true (by omega)
     (try rw [show ((0 : Int)).toNat = 0 from rfl] at hx206_0)
     (try rw [show 0 * 2 = 0 from rfl] at hx206_0)
     (try rw [Addr.add_zero'] at hx206_0)
     (try rw [show ((0 : Int)).toNat = 0 from rfl] at hx206_1)
     (try rw [show 0 * 2 = 0 from rfl] at hx206_1)
     (try rw [Addr.add_zero'] at hx206_1)
     have HR206_0 := Aside0.mk hi206_0
     have HC206_0 := Aside0.mk hl206_0
     clear hi206_0 hl206_0
     replace p206 := eq_true p206
     replace q206 := eq_true q206
     have p207 : 0 ≤ (0 : Int) := (by omega)
     have q207 : 0 < (l0.length : Int) := of_decide_eq_true (by first | (with_reducible assumption) | assumption)
     obtain ⟨ad207, A207_0, c207_0, e207, hx207_0, hx207_1, hl207_0, hi207_0⟩ := at_T41 (Kd.V_reads' HO0.out).2.2 0 p207 q207
     obtain rfl : ad206 = ad207 := (by injection e207)
     obtain ⟨ce207, hce207, hMe207, hcc207⟩ := Kd.V_get HO0.out z41 0 p207 (by first | exact q207 | exact of_decide_eq_true (by first | (with_reducible assumption) | assumption) | (have e_ := (Kd.V_reads' HO0.out).1; omega))
     obtain ⟨ua207_0, uc207_0, rfl, ul207_0, ge207_0⟩ := k41_openF hMe207
     have hv207_0 := hcc207 0 _ rfl
     rw [Nat.add_zero] at hv207_0
     replace hv207_0 := Option.some.inj (hv207_0.symm.trans hx207_0)
     injection hv207_0 with hva_ hvn_ hvc_
     rw [hva_] at ge207_0
     rw [hvc_] at ul207_0
     have HL207_0 := Aside0.mk (show Kd.V k38 38 _ w.heap.size _ _ ((rd_T41 l0 0).f0) from Kd.V_mk ul207_0 ge207_0)
     clear hva_ hvn_ hvc_ ge207_0 ul207_0
     clear hcc207 hce207
     have qi207 : (0 < l0.length) = True := eq_true (by omega)
     (try rw [show ((0 : Int)).toNat = 0 from rfl] at hx207_0)
     (try rw [show 0 * 2 = 0 from rfl] at hx207_0)
     (try rw [Addr.add_zero'] at hx207_0)
     (try rw [show ((0 : Int)).toNat = 0 from rfl] at hx207_1)
     (try rw [show 0 * 2 = 0 from rfl] at hx207_1)
     (try rw [Addr.add_zero'] at hx207_1)
     have HR207_0 := Aside0.mk hi207_0
     have HC207_0 := Aside0.mk hl207_0
     clear hi207_0 hl207_0
     replace p207 := eq_true p207
     replace q207 := eq_true q207
     have ea_ := Option.some.inj (hx206_0.symm.trans hx207_0)
     injection ea_ with ea_ en_ ec_
     subst ea_
     subst ec_
     clear en_
     go_enter Try.func34, Try.ntmps34
     go_wp2_with (first | ((with_reducible refine gate_dst (N := 17) rfl ?_); refine Kd.N_lit k41 _ 41 ?hg (N' := 17) ?hd (xs := ([(⟨(rd_T41 l0 0).f0, (rd_T41 l0 0).f1⟩ : S41)] : List (S41))) (inner := [.slice A206_0 ((rd_T41 l0 0).f0).length c206_0, .int .i64 ((rd_T41 l0 0).f1)]) (ok := (fun k_ => (P0_ k_ ∨ w.heap.size ≤ k_))) (okp := (fun k_ => (P0_ k_ ∨ w.heap.size ≤ k_))) ?hr ?hp (fun _ hk => hk) ((show ∀ k_, w.heap.size ≤ k_ → (fun k_ => (P0_ k_ ∨ w.heap.size ≤ k_)) k_ from fun k_ hk => (.inr (Nat.le_trans (below_size (by repeat (first | (with_reducible first | exact HB.out | apply below_alloc | apply pw_below_drewN | apply below_drew1) | exact HB.out))) hk))) _ (Nat.le_refl _)) (Below.refl _ _) (Nat.le_refl _) (by simp) ?_; (case hd => rfl); (case hg => rfl); (case hr => first | (go_simp; done) | (go_simp; rfl)); (case hp => exact (Reps.c2 (show Kd.FK k41 _ _ (⟨(rd_T41 l0 0).f0, (rd_T41 l0 0).f1⟩ : S41) [.slice A206_0 ((rd_T41 l0 0).f0).length c206_0, .int .i64 ((rd_T41 l0 0).f1)] from (k41_mkF _ _ (⟨(rd_T41 l0 0).f0, (rd_T41 l0 0).f1⟩ : S41) (Kd.V_reads' (Kd.V_mono (ok' := (fun k_ => (P0_ k_ ∨ w.heap.size ≤ k_))) (HL207_0.out) (fun k_ hk => hk))).2.1 (Kd.V_F (Kd.V_mono (ok' := (fun k_ => (P0_ k_ ∨ w.heap.size ≤ k_))) (HL207_0.out) (fun k_ hk => hk))))) (Reps.none _ _))); intro v209 w6 ho7 hb hg_ hnew_; clear hg_ hnew_; (first | rw [← Ny208.out] at ho7 | (simp only [Int.reduceToNat] at ho7; rw [← Ny208.out] at ho7)); have n0_ := Aside0.mk (Kd.V_elder' (by (with_reducible repeat (first | apply Kd.V_alloc | apply Kd.V_drewN | apply Kd.V_drew)); exact HO0.out) (Kd.N_base ho7) hb); have n1_ := Aside0.mk (Kd.V_elder' (by (with_reducible repeat (first | apply Kd.V_alloc | apply Kd.V_drewN | apply Kd.V_drew)); exact HL206_0.out) (Kd.N_base ho7) hb); have n2_ := Aside0.mk (Kd.V_elder' (by (with_reducible repeat (first | apply Kd.V_alloc | apply Kd.V_drewN | apply Kd.V_drew)); exact HL207_0.out) (Kd.N_base ho7) hb); have n3_ := Aside0.mk (Kd.N_lower ho7 (below_size (by repeat (first | (with_reducible first | exact HB.out | apply below_alloc | apply pw_below_drewN | apply below_drew1) | exact HB.out)))); have n4_ := Aside0.mk (Kd.C_below (by repeat (first | (with_reducible exact HR206_0.out) | (with_reducible refine Kd.C_alloc ?_ _) | (with_reducible refine Kd.C_drewN ?_ _) | (with_reducible refine Kd.C_drew ?_) | exact HR206_0.out)) hb); have n5_ := Aside0.mk (Kd.C_below (by repeat (first | (with_reducible exact HR207_0.out) | (with_reducible refine Kd.C_alloc ?_ _) | (with_reducible refine Kd.C_drewN ?_ _) | (with_reducible refine Kd.C_drew ?_) | exact HR207_0.out)) hb); have n6_ := Aside0.mk (below_step (by repeat (first | (with_reducible first | exact HB.out | apply below_alloc | apply pw_below_drewN | apply below_drew1) | exact HB.out)) hb); clear HO0; clear HL206_0; clear HL207_0; clear HR206_0; clear HR207_0; clear HB; have HO0 := n0_; have HL206_0 := n1_; have HL207_0 := n2_; have HO210 := n3_; have HR206_0 := n4_; have HR207_0 := n5_; have HB := n6_; clear n0_ n1_ n2_ n3_ n4_ n5_ n6_; clear hb ho7))
     go_ret
     exact ⟨_, by first | rfl | (simp [errW_none, errW_some] <;> rfl) | (simp [*, errW_none, errW_some] <;> rfl), by (with_reducible repeat (first | apply Kd.N_alloc | apply Kd.N_drewN | apply Kd.N_drew)); exact HO210.out, by repeat (first | (with_reducible first | exact HB.out | apply below_alloc | apply pw_below_drewN | apply below_drew1) | exact HB.out)⟩
   ·rw [if_neg c4] at H
    exact absurd H (by simp)
  ·rw [if_neg c3] at H
   have c3b0 : ((l0.length : Int) == 1) = false := beq_eq_false_iff_ne.mpr c3
   have c3b1 : ((l0.length : Int) != 1) = true := bne_iff_ne.mpr c3
   obtain ⟨ji8, hji8⟩ : ∃ j_ : Int, (wrap64 ((l0.length : Int) / 2)) = j_ := ⟨_, rfl⟩
   replace H : (if 0 ≤ (ji8) then (if (ji8) ≤ (l0.length : Int) then ((erasureref06_sort.f k (l0.take ((ji8) : Int).toNat)).bind fun t216 => ((erasureref06_sort.f k (l0.drop ((ji8) : Int).toNat)).bind fun t224 => ((erasureref06_merge.f k t216 t224).bind fun t227 => (some t227)))) else (none)) else (none)) = some r := by first | (rw [hji8] at H; exact H) | (simp only [hji8] at H ⊢; exact H)
   have hji8w : (IntKind.i64.wrap ((l0.length : Int) / 2)) = ji8 := (i64_w _).trans hji8
   by_cases c9 : 0 ≤ (ji8)
   ·rw [if_pos c9] at H
    have c9b0 := eq_true c9
    have c9b1 : decide (0 ≤ (ji8)) = true := decide_eq_true c9
    clear c9
    by_cases c10 : (ji8) ≤ (l0.length : Int)
    ·rw [if_pos c10] at H
     have c10b0 := eq_true c10
     have c10b1 : decide ((ji8) ≤ (l0.length : Int)) = true := decide_eq_true c10
     clear c10
     obtain ⟨y211, hy211⟩ : ∃ y_ : List (S41), y_ = (l0.take ((ji8) : Int).toNat) := ⟨_, rfl⟩
     replace H : ((erasureref06_sort.f k y211).bind fun t216 => ((erasureref06_sort.f k (l0.drop ((ji8) : Int).toNat)).bind fun t224 => ((erasureref06_merge.f k t216 t224).bind fun t227 => (some t227)))) = some r := by first | (rw [hy211]; with_reducible exact H) | (have H2_ := (Option.bind_some _ _).symm.trans H; rw [hy211]; with_reducible exact H2_) | (have H2_ := (Option.bind_some _ _).symm.trans H; with_reducible exact H2_) | with_reducible exact H | (rw [hy211]; exact H) | exact H
     have Ny211 := Aside0.mk hy211
     clear hy211
     replace H := Option.bind_eq_some_iff.mp H
     obtain ⟨t216, A110, H⟩ := H
     replace H : ((erasureref06_sort.f k (l0.drop ((ji8) : Int).toNat)).bind fun t224 => ((erasureref06_merge.f k t216 t224).bind fun t227 => (some t227))) = some r := H
     have A11 := Aside0.mk A110
     clear A110
     have c12b0 := eq_true (of_decide_eq_true (by first | (with_reducible assumption) | assumption) : 0 ≤ (ji8))
     have c13b0 := eq_true (of_decide_eq_true (by first | (with_reducible assumption) | assumption) : (ji8) ≤ (l0.length : Int))
     obtain ⟨y219, hy219⟩ : ∃ y_ : List (S41), y_ = (l0.drop ((ji8) : Int).toNat) := ⟨_, rfl⟩
     replace H : ((erasureref06_sort.f k y219).bind fun t224 => ((erasureref06_merge.f k t216 t224).bind fun t227 => (some t227))) = some r := by first | (rw [hy219]; with_reducible exact H) | (have H2_ := (Option.bind_some _ _).symm.trans H; rw [hy219]; with_reducible exact H2_) | (have H2_ := (Option.bind_some _ _).symm.trans H; with_reducible exact H2_) | with_reducible exact H | (rw [hy219]; exact H) | exact H
     have Ny219 := Aside0.mk hy219
     clear hy219
     replace H := Option.bind_eq_some_iff.mp H
     obtain ⟨t224, A140, H⟩ := H
     replace H : ((erasureref06_merge.f k t216 t224).bind fun t227 => (some t227)) = some r := H
     have A14 := Aside0.mk A140
     clear A140
     replace H := Option.bind_eq_some_iff.mp H
     obtain ⟨t227, A150, H⟩ := H
     replace H : (some t227) = some r := H
     have A15 := Aside0.mk A150
     clear A150
     obtain rfl := Option.some.inj H
     go_enter Try.func34, Try.ntmps34
     try go_wp2
     have n0_ := Aside0.mk (Kd.V_drew HO0.out)
     have n1_ := Aside0.mk (below_drew1 HB.out)
     clear HO0
     clear HB
     have HO0 := n0_
     have HB := n1_
     clear n0_ n1_
     have q17 : ((ji8) : Int) ≤ ((l0.length : Int) : Int) := of_decide_eq_true (by first | (with_reducible assumption) | assumption)
     obtain ⟨i017, hi017, _, hsz17, _⟩ := info_parts info41
     have hroom17 : l0.length ≤ c0 := (Kd.V_reads' HO0.out).2.1
     have hC17 : Kd.F k41 _ _ A0 l0.length l0 := (Kd.V_at (base := w.heap.size) HO0.out).2.2
     have hcut17 := cut_to (P := Try.prog) 24 41 .i64 Try.underlying24 hi017 A0 l0.length c0 (ji8) (of_decide_eq_true (by first | (with_reducible assumption) | assumption)) q17 hroom17
     have hr17 := Kd.F_take (m := ((ji8) : Int).toNat) hC17 (by omega)
     have hy17 : y211.length = ((ji8) : Int).toNat := (by rw [Ny211.out, List.length_take]; omega)
     rw [← Ny211.out] at hr17
     rw [← hy17] at hcut17
     have HO215 := Aside0.mk (show Kd.V k41 41 _ w.heap.size _ (.slice A0 y211.length c0) y211 from Kd.V_mk (by omega) hr17)
     have HC215 := Aside0.mk (show y211.length ≤ c0 from by omega)
     clear hr17 hC17 hroom17 hi017 hsz17
     have KY17 := Aside0.mk hy17
     clear hy17
     replace q17 := eq_true q17
     have q18 : ((ji8) : Int) ≤ ((l0.length : Int) : Int) := of_decide_eq_true (by first | (with_reducible assumption) | assumption)
     obtain ⟨i018, hi018, _, hsz18, _⟩ := info_parts info41
     have hroom18 : l0.length ≤ c0 := (Kd.V_reads' HO0.out).2.1
     have hC18 : Kd.F k41 _ _ A0 l0.length l0 := (Kd.V_at (base := w.heap.size) HO0.out).2.2
     have q018 : (0 : Int) ≤ ((ji8) : Int) := of_decide_eq_true (by first | (with_reducible assumption) | assumption)
     have hcut18 := cut_from (P := Try.prog) 24 41 .i64 Try.underlying24 hi018 2 hsz18 A0 l0.length c0 (ji8) q018 q18
     have hr18 := Kd.F_cut (m := ((ji8) : Int).toNat) (c := c0) hC18 (by omega) hroom18
     obtain ⟨A18, hA18⟩ : ∃ A1, A1 = (if c0 = ((ji8) : Int).toNat then A0 else (A0 : Option Addr).map (·.add (((ji8) : Int).toNat * 2))) := ⟨_, rfl⟩
     obtain ⟨c18, hc18⟩ : ∃ c1, c1 = c0 - ((ji8) : Int).toNat := ⟨_, rfl⟩
     have hy18 : y219.length = l0.length - ((ji8) : Int).toNat := (by rw [Ny219.out, List.length_drop] <;> omega)
     rw [show (l0).drop ((ji8) : Int).toNat = y219 from Ny219.out.symm] at hr18
     replace hr18 : Kd.F k41 _ _ A18 y219.length y219 := (by rw [hA18]; exact hr18)
     rw [← hy18, ← hA18, ← hc18] at hcut18
     have HO223 := Aside0.mk (show Kd.V k41 41 _ w.heap.size _ (.slice A18 y219.length c18) y219 from Kd.V_mk (by rw [hy18, hc18]; exact Nat.sub_le_sub_right hroom18 _) hr18)
     have HC223 := Aside0.mk (show y219.length ≤ c18 from by rw [hy18, hc18]; exact Nat.sub_le_sub_right hroom18 _)
     clear hr18 hC18 hroom18 hi018 hsz18 hc18
     have KY18 := Aside0.mk hy18
     have KA18 := Aside0.mk hA18
     clear hy18 hA18
     replace q18 := eq_true q18
     refine start_ (n := 14) (S := fun w' => True) (ds := []) #[false, false, false, false, false, false, false, false, false, false, false, false, false, false] (by kernel_rfl) rfl rfl trivial (fun hHeld => ?_); refine with_tabW erasureref06_sort.tab7 erasureref06_sort.bits7 (fun HT_ HW_ => ?_)
     generalize w.drew = w16 at HO0 HB HO215 HO223 hHeld ⊢
     refine pu (i := 0) (N := some 18) (bl 14 1) (any_of HT_.out (by kernel_rfl)) ?_
     refine pu (i := 1) (N := some 19) (bl 14 3) (any_of HT_.out (by kernel_rfl)) ?_
     refine pu (i := 2) (N := some 20) (bl 14 7) (any_of HT_.out (by kernel_rfl)) ?_
     refine pu (i := 3) (N := some 21) (bl 14 15) (any_of HT_.out (by kernel_rfl)) ?_
     refine pu (i := 4) (N := some 22) (bl 14 31) (any_of HT_.out (by kernel_rfl)) ?_
     refine pu (i := 6) (N := some 24) (bl 14 95) (any_of HT_.out (by kernel_rfl)) ?_
     refine pu (i := 7) (N := some 25) (bl 14 223) (any_of HT_.out (by kernel_rfl)) ?_
     refine pu (i := 8) (N := some 26) (bl 14 479) (any_of HT_.out (by kernel_rfl)) ?_
     refine pu (i := 9) (N := some 27) (bl 14 991) (any_of HT_.out (by kernel_rfl)) ?_
     refine pu (i := 10) (N := some 28) (bl 14 2015) (any_of HT_.out (by kernel_rfl)) ?_
     refine one_ (i := 5) (N := some 23) (bl 14 2047) rfl rfl (one_of HT_.out (by kernel_rfl)) (by decide) (fun K hK => ?_)
     refine goes_ Try.func34 (by kernel_rfl) rfl #[.slice A0 y211.length c0] (by rfl) rfl rfl (by (try simp only [List.map_toArray, List.map_cons, List.map_nil]); first | done | rfl | (simp only [List.length_drop, List.length_take]; rfl)) ?_
     with_reducible refine (ih k (by omega) (fun k_ => (P0_ k_ ∨ w.heap.size ≤ k_)) _ _ y211 t216 _ ?side1 A11.out).mono ?_
     (case side1 => exact HO215.out)
     rintro e w19 ⟨v217, rfl, ho0, hb⟩
     refine ⟨_, rfl, ?_⟩
     have n0_ := Aside0.mk (Kd.V_elder' (by (with_reducible repeat (first | apply Kd.V_alloc | apply Kd.V_drewN | apply Kd.V_drew)); exact HO0.out) (Kd.N_base ho0) hb)
     have n1_ := Aside0.mk (Kd.V_elder' (by (with_reducible repeat (first | apply Kd.V_alloc | apply Kd.V_drewN | apply Kd.V_drew)); exact HO215.out) (Kd.N_base ho0) hb)
     have n2_ := Aside0.mk (Kd.V_elder' (by (with_reducible repeat (first | apply Kd.V_alloc | apply Kd.V_drewN | apply Kd.V_drew)); exact HO223.out) (Kd.N_base ho0) hb)
     have n3_ := Aside0.mk (Kd.N_lower (Kd.N_mono (ok' := fun k_ => (P0_ k_ ∨ w.heap.size ≤ k_)) ho0 (fun k_ hk_ => Or.elim hk_ (fun hs_ => hs_) (fun hn_ => (.inr (Nat.le_trans (below_size (by repeat (first | (with_reducible first | exact HB.out | apply below_alloc | apply pw_below_drewN | apply below_drew1) | exact HB.out))) hn_))))) (below_size (by repeat (first | (with_reducible first | exact HB.out | apply below_alloc | apply pw_below_drewN | apply below_drew1) | exact HB.out))))
     have n4_ := Aside0.mk (below_step (by repeat (first | (with_reducible first | exact HB.out | apply below_alloc | apply pw_below_drewN | apply below_drew1) | exact HB.out)) hb)
     clear HO0
     clear HO215
     clear HO223
     clear HB
     have HO0 := n0_
     have HO215 := n1_
     have HO223 := n2_
     have HO218 := n3_
     have HB := n4_
     clear n0_ n1_ n2_ n3_ n4_
     (try clear hb)
     (try clear hb2)
     (try clear hk)
     (try clear hi)
     (try clear ho0)
     refine hK.out _ _ trivial (fun hHeld => ?_)
     clear hK K
     refine norm_ (a' := ?_) ?_ ?_
     rotate_left
     ·show Act.put _ (some 23) _ = _
      simp only [Act.put, List.setIfInBounds_toArray, List.set_cons_zero, List.set_cons_succ, i64_w, i32_w]
      rfl
     refine one_ (i := 11) (N := some 29) (bl 14 4095) rfl rfl (one_of HT_.out (by kernel_rfl)) (by decide) (fun K hK => ?_)
     refine goes_ Try.func34 (by kernel_rfl) rfl #[.slice A18 y219.length c18] (by rfl) rfl rfl (by (try simp only [List.map_toArray, List.map_cons, List.map_nil]); first | done | rfl | (simp only [List.length_drop, List.length_take]; rfl)) ?_
     with_reducible refine (ih k (by omega) (fun k_ => ((P0_ k_ ∨ w.heap.size ≤ k_) ∧ some k_ ≠ (v217 : Value).ownBlock)) _ _ y219 t224 _ ?side1 A14.out).mono ?_
     (case side1 => exact HO223.out)
     rintro e w20 ⟨v225, rfl, ho0, hb⟩
     refine ⟨_, rfl, ?_⟩
     have n0_ := Aside0.mk (Kd.V_elder' (by (with_reducible repeat (first | apply Kd.V_alloc | apply Kd.V_drewN | apply Kd.V_drew)); exact HO0.out) (Kd.N_base ho0) hb)
     have n1_ := Aside0.mk (Kd.V_elder' (by (with_reducible repeat (first | apply Kd.V_alloc | apply Kd.V_drewN | apply Kd.V_drew)); exact HO215.out) (Kd.N_base ho0) hb)
     have n2_ := Aside0.mk (Kd.V_elder' (by (with_reducible repeat (first | apply Kd.V_alloc | apply Kd.V_drewN | apply Kd.V_drew)); exact HO223.out) (Kd.N_base ho0) hb)
     have n3_ := Aside0.mk (Kd.N_elder' (by (with_reducible repeat (first | apply Kd.N_alloc | apply Kd.N_drewN | apply Kd.N_drew)); exact HO218.out) (Kd.N_base ho0) hb)
     have n4_ := Aside0.mk (Kd.N_lower (Kd.N_mono (ok' := fun k_ => (P0_ k_ ∨ w.heap.size ≤ k_) ∧ some k_ ≠ (v217 : Value).ownBlock) ho0 (fun k_ hk_ => ⟨Or.elim hk_ (fun hs_ => hs_.1) (fun hn_ => (.inr (Nat.le_trans (below_size (by repeat (first | (with_reducible first | exact HB.out | apply below_alloc | apply pw_below_drewN | apply below_drew1) | exact HB.out))) hn_))), Or.elim hk_ (fun hs_ => hs_.2) (fun hn_ => (Kd.fresh' (Kd.N_lt (by (with_reducible repeat (first | apply Kd.N_alloc | apply Kd.N_drewN | apply Kd.N_drew)); exact HO218.out)) k_ hn_))⟩)) (below_size (by repeat (first | (with_reducible first | exact HB.out | apply below_alloc | apply pw_below_drewN | apply below_drew1) | exact HB.out))))
     have n5_ := Aside0.mk (below_step (by repeat (first | (with_reducible first | exact HB.out | apply below_alloc | apply pw_below_drewN | apply below_drew1) | exact HB.out)) hb)
     clear HO0
     clear HO215
     clear HO223
     clear HO218
     clear HB
     have HO0 := n0_
     have HO215 := n1_
     have HO223 := n2_
     have HO218 := n3_
     have HO226 := n4_
     have HB := n5_
     clear n0_ n1_ n2_ n3_ n4_ n5_
     (try clear hb)
     (try clear hb2)
     (try clear hk)
     (try clear hi)
     (try clear ho0)
     obtain ⟨Ao21, co21, eo21⟩ := Kd.N_slice HO218.out
     (first | subst eo21 | (injection eo21 with f1_ f2_ f3_; have f4_ := f1_.symm; have f5_ := f3_.symm; clear f1_ f2_ f3_; subst f4_; subst f5_))
     obtain ⟨Ao22, co22, eo22⟩ := Kd.N_slice HO226.out
     (first | subst eo22 | (injection eo22 with f1_ f2_ f3_; have f4_ := f1_.symm; have f5_ := f3_.symm; clear f1_ f2_ f3_; subst f4_; subst f5_))
     refine hK.out _ _ trivial (fun hHeld => ?_)
     clear hK K
     refine norm_ (a' := ?_) ?_ ?_
     rotate_left
     ·show Act.put _ (some 29) _ = _
      simp only [Act.put, List.setIfInBounds_toArray, List.set_cons_zero, List.set_cons_succ, i64_w, i32_w]
      rfl
     refine one_ (i := 12) (N := some 30) (bl 14 8191) rfl rfl (one_of HT_.out (by kernel_rfl)) (by decide) (fun K hK => ?_)
     refine goes_ Try.func45 (by kernel_rfl) rfl #[.slice Ao21 t216.length co21, .slice Ao22 t224.length co22] (by rfl) rfl rfl (by (try simp only [List.map_toArray, List.map_cons, List.map_nil]); first | done | rfl | (simp only [List.length_drop, List.length_take]; rfl)) ?_
     with_reducible refine (erasureref06_merge.calls k (fun k_ => ((P0_ k_ ∨ w.heap.size ≤ k_) ∧ some k_ ≠ (.slice Ao22 t224.length co22 : Value).ownBlock)) _ _ t216 (fun k_ => ((P0_ k_ ∨ w.heap.size ≤ k_) ∧ some k_ ≠ (.slice Ao21 t216.length co21 : Value).ownBlock)) _ _ t224 t227 _ ?side1 ?side2 A15.out).mono ?_
     (case side1 => exact Kd.N_V (HO218.out))
     (case side2 => exact Kd.N_V (HO226.out))
     rintro e w23 ⟨v228, rfl, ho0, hb⟩
     refine ⟨_, rfl, ?_⟩
     have n0_ := Aside0.mk (Kd.V_elder' (by (with_reducible repeat (first | apply Kd.V_alloc | apply Kd.V_drewN | apply Kd.V_drew)); exact HO0.out) (Kd.N_base ho0) hb)
     have n1_ := Aside0.mk (Kd.V_elder' (by (with_reducible repeat (first | apply Kd.V_alloc | apply Kd.V_drewN | apply Kd.V_drew)); exact HO215.out) (Kd.N_base ho0) hb)
     have n2_ := Aside0.mk (Kd.V_elder' (by (with_reducible repeat (first | apply Kd.V_alloc | apply Kd.V_drewN | apply Kd.V_drew)); exact HO223.out) (Kd.N_base ho0) hb)
     have n3_ := Aside0.mk (Kd.N_elder' (by (with_reducible repeat (first | apply Kd.N_alloc | apply Kd.N_drewN | apply Kd.N_drew)); exact HO218.out) (Kd.N_base ho0) hb)
     have n4_ := Aside0.mk (Kd.N_elder' (by (with_reducible repeat (first | apply Kd.N_alloc | apply Kd.N_drewN | apply Kd.N_drew)); exact HO226.out) (Kd.N_base ho0) hb)
     have n5_ := Aside0.mk (Kd.N_lower (Kd.N_mono (ok' := fun k_ => (P0_ k_ ∨ w.heap.size ≤ k_)) ho0 (fun k_ hk_ => Or.elim hk_ (fun hs_ => Or.elim hs_ (fun hs_ => hs_.1) (fun hs_ => hs_.1)) (fun hn_ => (.inr (Nat.le_trans (below_size (by repeat (first | (with_reducible first | exact HB.out | apply below_alloc | apply pw_below_drewN | apply below_drew1) | exact HB.out))) hn_))))) (below_size (by repeat (first | (with_reducible first | exact HB.out | apply below_alloc | apply pw_below_drewN | apply below_drew1) | exact HB.out))))
     have n6_ := Aside0.mk (below_step (by repeat (first | (with_reducible first | exact HB.out | apply below_alloc | apply pw_below_drewN | apply below_drew1) | exact HB.out)) hb)
     clear HO0
     clear HO215
     clear HO223
     clear HO218
     clear HO226
     clear HB
     have HO0 := n0_
     have HO215 := n1_
     have HO223 := n2_
     have HO218 := n3_
     have HO226 := n4_
     have HO229 := n5_
     have HB := n6_
     clear n0_ n1_ n2_ n3_ n4_ n5_ n6_
     (try clear hb)
     (try clear hb2)
     (try clear hk)
     (try clear hi)
     (try clear ho0)
     refine hK.out _ _ trivial (fun hHeld => ?_)
     clear hK K
     refine norm_ (a' := ?_) ?_ ?_
     rotate_left
     ·show Act.put _ (some 30) _ = _
      simp only [Act.put, List.setIfInBounds_toArray, List.set_cons_zero, List.set_cons_succ, i64_w, i32_w]
      rfl
     refine pu (i := 13) (N := some 2) (bl 14 16383) (any_of HT_.out (by kernel_rfl)) ?_
     refine done_ (done_of HT_.out (by kernel_rfl)) ?_
     try go_wp2
     go_ret
     exact ⟨_, by first | rfl | (simp [errW_none, errW_some] <;> rfl) | (simp only [← hji8]; first | rfl | (simp [errW_none, errW_some] <;> rfl)) | (simp [*, errW_none, errW_some] <;> rfl), by (with_reducible repeat (first | apply Kd.N_alloc | apply Kd.N_drewN | apply Kd.N_drew)); exact HO229.out, by repeat (first | (with_reducible first | exact HB.out | apply below_alloc | apply pw_below_drewN | apply below_drew1) | exact HB.out)⟩
    ·rw [if_neg c10] at H
     exact absurd H (by simp)
   ·rw [if_neg c9] at H
    exact absurd H (by simp)
end Go.Proofs.Ytjhnpaenhdbhpaa.P
namespace Go.Proofs.Ytjhnpaenhdbhpaa.P
open Go.RowKit Go.Proofs.YtjhnpaenhdbhpaaW.PrintWords Go.Proofs.YtjhnpaenhdbhpaaW.PrintLast Go.Proofs.YtjhnpaenhdbhpaaW.PrintMore
attribute [local go_sem] max2_int min2_int max_two min_two max_three min_three max_four min_four
set_option linter.unusedVariables false
set_option linter.unusedSimpArgs false
def erasureref06_Normalize.l0 : Nat → List (S41) → Int → Option ((List (S41)) × Int)
 | 0, _, _ => none
 | k + 1, x0, x4 => if x4 < (x0.length : Int) then (if 0 ≤ x4 then ((erasureref01_ValidRow.f k ((rd_T41 x0 x4).f0)).bind fun t238 => (if t238 = true then ((erasureref06_countOK.f ((rd_T41 x0 x4).f1)).bind fun t240 => (if t240 = true then (erasureref06_Normalize.l0 k x0 (wrap64 (x4 + 1))) else (some (([] : List (S41)), 1)))) else (some (([] : List (S41)), 1)))) else (none)) else ((erasureref06_sort.f k x0).bind fun t230 => ((erasureref06_fits.f k t230).bind fun bt233 => (some (bt233.1, bt233.2))))
def erasureref06_Normalize.f (k : Nat) (l0 : List (S41)) : Option ((List (S41)) × Int) := erasureref06_Normalize.l0 k l0 0
set_option maxHeartbeats 8000000 in
set_option maxRecDepth 100000 in
theorem erasureref06_Normalize.calls (k : Nat) (P0_ : Nat → Prop) (A0 : Option Addr) (c0 : Nat) (l0 : List (S41)) (r1 : List (S41)) (r2 : Int) (w : World) (hs0 : Kd.V k41 41 w w.heap.size (fun k_ => P0_ k_) (.slice A0 l0.length c0) l0) (h : erasureref06_Normalize.f k l0 = some (r1, r2)) :
  Calls Try.prog 13 #[.slice A0 l0.length c0] w fun e w' => ∃ v0_ : Value, e = .returned (.tuple #[v0_, .int .i64 r2]) ∧ Kd.V k41 41 w' w.heap.size (fun k_ => (P0_ k_ ∨ w.heap.size ≤ k_)) v0_ r1 ∧ Below w.heap.size w w' := by
 have HO0 := Aside0.mk (show Kd.V k41 41 w w.heap.size (fun k_ => (P0_ k_ ∨ w.heap.size ≤ k_)) (.slice A0 l0.length c0) l0 from Kd.V_mono hs0 (fun k_ hk => .inl hk))
 have HB := Aside0.mk (Below.refl w.heap.size w)
 have H : (erasureref06_Normalize.l0 k l0 0) = some (r1, r2) := h
 clear h
 have H' := Aside0.mk H
 clear H
 go_enter Try.func13, Try.ntmps13
 go_wp2
 go_loopg [4] k (fun kq v4 w' => ∃ (x4_1 : Int), v4 = .int .i64 x4_1 ∧ Aside0 (erasureref06_Normalize.l0 kq l0 x4_1 = some (r1, r2)) ∧ Aside0 (kq ≤ k) ∧ Aside0 (Kd.V k41 41 w' w.heap.size (fun k_ => (P0_ k_ ∨ w.heap.size ≤ k_)) (.slice A0 l0.length c0) l0) ∧ Aside0 (Below w.heap.size w w'))
 case atStart => exact ⟨(0), (by first | rfl | (simp; done) | (simp [*]; done)), H', ⟨Nat.le_refl _⟩, ⟨by (with_reducible repeat (first | apply Kd.V_alloc | apply Kd.V_drewN | apply Kd.V_drew)); exact HO0.out⟩, ⟨by repeat (first | (with_reducible first | exact HB.out | apply below_alloc | apply pw_below_drewN | apply below_drew1) | exact HB.out)⟩⟩
 case round =>
  clear H'
  try clear c1
  obtain ⟨x4_1, rfl, HA, HK1, HO_0, HB⟩ := hrel
  cases gk with
  | zero => exact absurd HA.out (by simp [erasureref06_Normalize.l0])
  | succ k1 =>
   have H := HA.out
   clear HA
   simp only [erasureref06_Normalize.l0] at H
   by_cases c2 : x4_1 < (l0.length : Int)
   ·rw [if_pos c2] at H
    have c2b0 : decide (x4_1 < (l0.length : Int)) = true := decide_eq_true c2
    clear c2
    by_cases c3 : 0 ≤ x4_1
    ·rw [if_pos c3] at H
     have c3b0 : decide (0 ≤ x4_1) = true := decide_eq_true c3
     clear c3
     replace H := Option.bind_eq_some_iff.mp H
     obtain ⟨t238, A40, H⟩ := H
     replace H : (if t238 = true then ((erasureref06_countOK.f ((rd_T41 l0 x4_1).f1)).bind fun t240 => (if t240 = true then (erasureref06_Normalize.l0 k1 l0 (wrap64 (x4_1 + 1))) else (some (([] : List (S41)), 1)))) else (some (([] : List (S41)), 1))) = some (r1, r2) := H
     have A4 := Aside0.mk A40
     clear A40
     by_cases c5 : t238 = true
     ·subst c5
      have H1 : ((erasureref06_countOK.f ((rd_T41 l0 x4_1).f1)).bind fun t240 => (if t240 = true then (erasureref06_Normalize.l0 k1 l0 (wrap64 (x4_1 + 1))) else (some (([] : List (S41)), 1)))) = some (r1, r2) := by rw [if_pos rfl] at H; exact H
      clear H
      have H := H1
      clear H1
      replace H := Option.bind_eq_some_iff.mp H
      obtain ⟨t240, A60, H⟩ := H
      replace H : (if t240 = true then (erasureref06_Normalize.l0 k1 l0 (wrap64 (x4_1 + 1))) else (some (([] : List (S41)), 1))) = some (r1, r2) := H
      have A6 := Aside0.mk A60
      clear A60
      by_cases c7 : t240 = true
      ·subst c7
       have H1 : (erasureref06_Normalize.l0 k1 l0 (wrap64 (x4_1 + 1))) = some (r1, r2) := by rw [if_pos rfl] at H; exact H
       clear H
       have H := H1
       clear H1
       have H' := Aside0.mk H
       clear H
       have p237 : 0 ≤ (x4_1 : Int) := of_decide_eq_true (by first | (with_reducible assumption) | assumption)
       have q237 : x4_1 < (l0.length : Int) := of_decide_eq_true (by first | (with_reducible assumption) | assumption)
       obtain ⟨ad237, A237_0, c237_0, e237, hx237_0, hx237_1, hl237_0, hi237_0⟩ := at_T41 (Kd.V_reads' HO_0.out).2.2 x4_1 p237 q237
       cases e237
       obtain ⟨ce237, hce237, hMe237, hcc237⟩ := Kd.V_get HO_0.out z41 x4_1 p237 (by first | exact q237 | exact of_decide_eq_true (by first | (with_reducible assumption) | assumption) | (have e_ := (Kd.V_reads' HO_0.out).1; omega))
       obtain ⟨ua237_0, uc237_0, rfl, ul237_0, ge237_0⟩ := k41_openF hMe237
       have hv237_0 := hcc237 0 _ rfl
       rw [Nat.add_zero] at hv237_0
       replace hv237_0 := Option.some.inj (hv237_0.symm.trans hx237_0)
       injection hv237_0 with hva_ hvn_ hvc_
       rw [hva_] at ge237_0
       rw [hvc_] at ul237_0
       have HL237_0 := Aside0.mk (show Kd.V k38 38 _ w.heap.size _ _ ((rd_T41 l0 x4_1).f0) from Kd.V_mk ul237_0 ge237_0)
       clear hva_ hvn_ hvc_ ge237_0 ul237_0
       clear hcc237 hce237
       have HR237_0 := Aside0.mk hi237_0
       have HC237_0 := Aside0.mk hl237_0
       clear hi237_0 hl237_0
       replace p237 := eq_true p237
       replace q237 := eq_true q237
       go_wp2_with (first | ((with_reducible refine gate_callee (f := 31) rfl ?_); refine goesL_ (some 16) rfl rfl Try.func31 (by kernel_rfl) rfl #[.slice A237_0 ((rd_T41 l0 x4_1).f0).length c237_0] rfl (by (try simp only [List.map_toArray, List.map_cons, List.map_nil]); first | done | rfl | (simp only [List.length_drop, List.length_take]; rfl)) ?_; (with_reducible refine (erasureref01_ValidRow.calls k1 _ _ ((rd_T41 l0 x4_1).f0) true _ ?side1 ?side2 A4.out).mono ?_); (case side1 => repeat (first | exact (by repeat (first | (with_reducible exact HR237_0.out) | (with_reducible refine Kd.C_alloc ?_ _) | (with_reducible refine Kd.C_drewN ?_ _) | (with_reducible refine Kd.C_drew ?_) | exact HR237_0.out)) | (with_reducible refine Kd.C_alloc ?_ _) | (with_reducible refine Kd.C_drewN ?_ _) | (with_reducible refine Kd.C_drew ?_))); (case side2 => exact HC237_0.out); rintro e w8 ⟨rfl, hb⟩; refine ⟨_, rfl, ?_⟩; have n0_ := Aside0.mk (Kd.V_below (by (with_reducible repeat (first | apply Kd.V_alloc | apply Kd.V_drewN | apply Kd.V_drew)); exact HO_0.out) hb); have n1_ := Aside0.mk (Kd.V_below (by (with_reducible repeat (first | apply Kd.V_alloc | apply Kd.V_drewN | apply Kd.V_drew)); exact HL237_0.out) hb); have n2_ := Aside0.mk (Kd.C_below (by repeat (first | (with_reducible exact HR237_0.out) | (with_reducible refine Kd.C_alloc ?_ _) | (with_reducible refine Kd.C_drewN ?_ _) | (with_reducible refine Kd.C_drew ?_) | exact HR237_0.out)) hb); have n3_ := Aside0.mk (below_step (by repeat (first | (with_reducible first | exact HB.out | apply below_alloc | apply pw_below_drewN | apply below_drew1) | exact HB.out)) hb); clear HO_0; clear HL237_0; clear HR237_0; clear HB; have HO_0 := n0_; have HL237_0 := n1_; have HR237_0 := n2_; have HB := n3_; clear n0_ n1_ n2_ n3_; (try clear hb); (try clear hb2); (try clear hk); (try clear hi); have p239 : 0 ≤ (x4_1 : Int) := of_decide_eq_true (by first | (with_reducible assumption) | assumption); have q239 : x4_1 < (l0.length : Int) := of_decide_eq_true (by first | (with_reducible assumption) | assumption); obtain ⟨ad239, A239_0, c239_0, e239, hx239_0, hx239_1, hl239_0, hi239_0⟩ := at_T41 (Kd.V_reads' HO_0.out).2.2 x4_1 p239 q239; obtain rfl : ad237 = ad239 := (by injection e239); obtain ⟨ce239, hce239, hMe239, hcc239⟩ := Kd.V_get HO_0.out z41 x4_1 p239 (by first | exact q239 | exact of_decide_eq_true (by first | (with_reducible assumption) | assumption) | (have e_ := (Kd.V_reads' HO_0.out).1; omega)); obtain ⟨ua239_0, uc239_0, rfl, ul239_0, ge239_0⟩ := k41_openF hMe239; have hv239_0 := hcc239 0 _ rfl; rw [Nat.add_zero] at hv239_0; replace hv239_0 := Option.some.inj (hv239_0.symm.trans hx239_0); injection hv239_0 with hva_ hvn_ hvc_; rw [hva_] at ge239_0; rw [hvc_] at ul239_0; have HL239_0 := Aside0.mk (show Kd.V k38 38 _ w.heap.size _ _ ((rd_T41 l0 x4_1).f0) from Kd.V_mk ul239_0 ge239_0); clear hva_ hvn_ hvc_ ge239_0 ul239_0; clear hcc239 hce239; have HR239_0 := Aside0.mk hi239_0; have HC239_0 := Aside0.mk hl239_0; clear hi239_0 hl239_0; replace p239 := eq_true p239; replace q239 := eq_true q239) | (go_at_call 32; (with_reducible refine (erasureref06_countOK.calls ((rd_T41 l0 x4_1).f1) true _ A6.out).mono ?_); rintro e w' ⟨rfl, ⟨nd, rfl⟩⟩))
       go_roundg k1
       case measure => have := HK1.out; omega
       case rel => exact ⟨(wrap64 (x4_1 + 1)), (by first | rfl | (simp; done) | (simp [*]; done)), H', ⟨by have := HK1.out; omega⟩, ⟨by (with_reducible repeat (first | apply Kd.V_alloc | apply Kd.V_drewN | apply Kd.V_drew)); exact HO_0.out⟩, ⟨by repeat (first | (with_reducible first | exact HB.out | apply below_alloc | apply pw_below_drewN | apply below_drew1) | exact HB.out)⟩⟩
      ·replace c7 := Bool.eq_false_iff.mpr c7
       subst c7
       have H1 : (some (([] : List (S41)), 1)) = some (r1, r2) := by rw [if_neg (show ¬ (false = true) by decide)] at H; exact H
       clear H
       have H := H1
       clear H1
       simp only [Option.some.injEq, Prod.mk.injEq] at H
       obtain ⟨rfl, rfl⟩ := H
       have p237 : 0 ≤ (x4_1 : Int) := of_decide_eq_true (by first | (with_reducible assumption) | assumption)
       have q237 : x4_1 < (l0.length : Int) := of_decide_eq_true (by first | (with_reducible assumption) | assumption)
       obtain ⟨ad237, A237_0, c237_0, e237, hx237_0, hx237_1, hl237_0, hi237_0⟩ := at_T41 (Kd.V_reads' HO_0.out).2.2 x4_1 p237 q237
       cases e237
       obtain ⟨ce237, hce237, hMe237, hcc237⟩ := Kd.V_get HO_0.out z41 x4_1 p237 (by first | exact q237 | exact of_decide_eq_true (by first | (with_reducible assumption) | assumption) | (have e_ := (Kd.V_reads' HO_0.out).1; omega))
       obtain ⟨ua237_0, uc237_0, rfl, ul237_0, ge237_0⟩ := k41_openF hMe237
       have hv237_0 := hcc237 0 _ rfl
       rw [Nat.add_zero] at hv237_0
       replace hv237_0 := Option.some.inj (hv237_0.symm.trans hx237_0)
       injection hv237_0 with hva_ hvn_ hvc_
       rw [hva_] at ge237_0
       rw [hvc_] at ul237_0
       have HL237_0 := Aside0.mk (show Kd.V k38 38 _ w.heap.size _ _ ((rd_T41 l0 x4_1).f0) from Kd.V_mk ul237_0 ge237_0)
       clear hva_ hvn_ hvc_ ge237_0 ul237_0
       clear hcc237 hce237
       have HR237_0 := Aside0.mk hi237_0
       have HC237_0 := Aside0.mk hl237_0
       clear hi237_0 hl237_0
       replace p237 := eq_true p237
       replace q237 := eq_true q237
       go_wp2_with (first | ((with_reducible refine gate_callee (f := 31) rfl ?_); refine goesL_ (some 16) rfl rfl Try.func31 (by kernel_rfl) rfl #[.slice A237_0 ((rd_T41 l0 x4_1).f0).length c237_0] rfl (by (try simp only [List.map_toArray, List.map_cons, List.map_nil]); first | done | rfl | (simp only [List.length_drop, List.length_take]; rfl)) ?_; (with_reducible refine (erasureref01_ValidRow.calls k1 _ _ ((rd_T41 l0 x4_1).f0) true _ ?side1 ?side2 A4.out).mono ?_); (case side1 => repeat (first | exact (by repeat (first | (with_reducible exact HR237_0.out) | (with_reducible refine Kd.C_alloc ?_ _) | (with_reducible refine Kd.C_drewN ?_ _) | (with_reducible refine Kd.C_drew ?_) | exact HR237_0.out)) | (with_reducible refine Kd.C_alloc ?_ _) | (with_reducible refine Kd.C_drewN ?_ _) | (with_reducible refine Kd.C_drew ?_))); (case side2 => exact HC237_0.out); rintro e w9 ⟨rfl, hb⟩; refine ⟨_, rfl, ?_⟩; have n0_ := Aside0.mk (Kd.V_below (by (with_reducible repeat (first | apply Kd.V_alloc | apply Kd.V_drewN | apply Kd.V_drew)); exact HO_0.out) hb); have n1_ := Aside0.mk (Kd.V_below (by (with_reducible repeat (first | apply Kd.V_alloc | apply Kd.V_drewN | apply Kd.V_drew)); exact HL237_0.out) hb); have n2_ := Aside0.mk (Kd.C_below (by repeat (first | (with_reducible exact HR237_0.out) | (with_reducible refine Kd.C_alloc ?_ _) | (with_reducible refine Kd.C_drewN ?_ _) | (with_reducible refine Kd.C_drew ?_) | exact HR237_0.out)) hb); have n3_ := Aside0.mk (below_step (by repeat (first | (with_reducible first | exact HB.out | apply below_alloc | apply pw_below_drewN | apply below_drew1) | exact HB.out)) hb); clear HO_0; clear HL237_0; clear HR237_0; clear HB; have HO_0 := n0_; have HL237_0 := n1_; have HR237_0 := n2_; have HB := n3_; clear n0_ n1_ n2_ n3_; (try clear hb); (try clear hb2); (try clear hk); (try clear hi); have p239 : 0 ≤ (x4_1 : Int) := of_decide_eq_true (by first | (with_reducible assumption) | assumption); have q239 : x4_1 < (l0.length : Int) := of_decide_eq_true (by first | (with_reducible assumption) | assumption); obtain ⟨ad239, A239_0, c239_0, e239, hx239_0, hx239_1, hl239_0, hi239_0⟩ := at_T41 (Kd.V_reads' HO_0.out).2.2 x4_1 p239 q239; obtain rfl : ad237 = ad239 := (by injection e239); obtain ⟨ce239, hce239, hMe239, hcc239⟩ := Kd.V_get HO_0.out z41 x4_1 p239 (by first | exact q239 | exact of_decide_eq_true (by first | (with_reducible assumption) | assumption) | (have e_ := (Kd.V_reads' HO_0.out).1; omega)); obtain ⟨ua239_0, uc239_0, rfl, ul239_0, ge239_0⟩ := k41_openF hMe239; have hv239_0 := hcc239 0 _ rfl; rw [Nat.add_zero] at hv239_0; replace hv239_0 := Option.some.inj (hv239_0.symm.trans hx239_0); injection hv239_0 with hva_ hvn_ hvc_; rw [hva_] at ge239_0; rw [hvc_] at ul239_0; have HL239_0 := Aside0.mk (show Kd.V k38 38 _ w.heap.size _ _ ((rd_T41 l0 x4_1).f0) from Kd.V_mk ul239_0 ge239_0); clear hva_ hvn_ hvc_ ge239_0 ul239_0; clear hcc239 hce239; have HR239_0 := Aside0.mk hi239_0; have HC239_0 := Aside0.mk hl239_0; clear hi239_0 hl239_0; replace p239 := eq_true p239; replace q239 := eq_true q239) | (go_at_call 32; (with_reducible refine (erasureref06_countOK.calls ((rd_T41 l0 x4_1).f1) false _ A6.out).mono ?_); rintro e w' ⟨rfl, ⟨nd, rfl⟩⟩))
       go_ret2
       exact ⟨_, by first | rfl | (simp [errW_none, errW_some] <;> rfl) | (simp [*, errW_none, errW_some] <;> rfl), Kd.N_V (Kd.N_nil _ _ _ 0 _), by repeat (first | (with_reducible first | exact HB.out | apply below_alloc | apply pw_below_drewN | apply below_drew1) | exact HB.out)⟩
     ·replace c5 := Bool.eq_false_iff.mpr c5
      subst c5
      have H1 : (some (([] : List (S41)), 1)) = some (r1, r2) := by rw [if_neg (show ¬ (false = true) by decide)] at H; exact H
      clear H
      have H := H1
      clear H1
      simp only [Option.some.injEq, Prod.mk.injEq] at H
      obtain ⟨rfl, rfl⟩ := H
      have p237 : 0 ≤ (x4_1 : Int) := of_decide_eq_true (by first | (with_reducible assumption) | assumption)
      have q237 : x4_1 < (l0.length : Int) := of_decide_eq_true (by first | (with_reducible assumption) | assumption)
      obtain ⟨ad237, A237_0, c237_0, e237, hx237_0, hx237_1, hl237_0, hi237_0⟩ := at_T41 (Kd.V_reads' HO_0.out).2.2 x4_1 p237 q237
      cases e237
      obtain ⟨ce237, hce237, hMe237, hcc237⟩ := Kd.V_get HO_0.out z41 x4_1 p237 (by first | exact q237 | exact of_decide_eq_true (by first | (with_reducible assumption) | assumption) | (have e_ := (Kd.V_reads' HO_0.out).1; omega))
      obtain ⟨ua237_0, uc237_0, rfl, ul237_0, ge237_0⟩ := k41_openF hMe237
      have hv237_0 := hcc237 0 _ rfl
      rw [Nat.add_zero] at hv237_0
      replace hv237_0 := Option.some.inj (hv237_0.symm.trans hx237_0)
      injection hv237_0 with hva_ hvn_ hvc_
      rw [hva_] at ge237_0
      rw [hvc_] at ul237_0
      have HL237_0 := Aside0.mk (show Kd.V k38 38 _ w.heap.size _ _ ((rd_T41 l0 x4_1).f0) from Kd.V_mk ul237_0 ge237_0)
      clear hva_ hvn_ hvc_ ge237_0 ul237_0
      clear hcc237 hce237
      have HR237_0 := Aside0.mk hi237_0
      have HC237_0 := Aside0.mk hl237_0
      clear hi237_0 hl237_0
      replace p237 := eq_true p237
      replace q237 := eq_true q237
      go_wp2_with (first | ((with_reducible refine gate_callee (f := 31) rfl ?_); refine goesL_ (some 16) rfl rfl Try.func31 (by kernel_rfl) rfl #[.slice A237_0 ((rd_T41 l0 x4_1).f0).length c237_0] rfl (by (try simp only [List.map_toArray, List.map_cons, List.map_nil]); first | done | rfl | (simp only [List.length_drop, List.length_take]; rfl)) ?_; (with_reducible refine (erasureref01_ValidRow.calls k1 _ _ ((rd_T41 l0 x4_1).f0) false _ ?side1 ?side2 A4.out).mono ?_); (case side1 => repeat (first | exact (by repeat (first | (with_reducible exact HR237_0.out) | (with_reducible refine Kd.C_alloc ?_ _) | (with_reducible refine Kd.C_drewN ?_ _) | (with_reducible refine Kd.C_drew ?_) | exact HR237_0.out)) | (with_reducible refine Kd.C_alloc ?_ _) | (with_reducible refine Kd.C_drewN ?_ _) | (with_reducible refine Kd.C_drew ?_))); (case side2 => exact HC237_0.out); rintro e w10 ⟨rfl, hb⟩; refine ⟨_, rfl, ?_⟩; have n0_ := Aside0.mk (Kd.V_below (by (with_reducible repeat (first | apply Kd.V_alloc | apply Kd.V_drewN | apply Kd.V_drew)); exact HO_0.out) hb); have n1_ := Aside0.mk (Kd.V_below (by (with_reducible repeat (first | apply Kd.V_alloc | apply Kd.V_drewN | apply Kd.V_drew)); exact HL237_0.out) hb); have n2_ := Aside0.mk (Kd.C_below (by repeat (first | (with_reducible exact HR237_0.out) | (with_reducible refine Kd.C_alloc ?_ _) | (with_reducible refine Kd.C_drewN ?_ _) | (with_reducible refine Kd.C_drew ?_) | exact HR237_0.out)) hb); have n3_ := Aside0.mk (below_step (by repeat (first | (with_reducible first | exact HB.out | apply below_alloc | apply pw_below_drewN | apply below_drew1) | exact HB.out)) hb); clear HO_0; clear HL237_0; clear HR237_0; clear HB; have HO_0 := n0_; have HL237_0 := n1_; have HR237_0 := n2_; have HB := n3_; clear n0_ n1_ n2_ n3_; (try clear hb); (try clear hb2); (try clear hk); (try clear hi)))
      go_ret2
      exact ⟨_, by first | rfl | (simp [errW_none, errW_some] <;> rfl) | (simp [*, errW_none, errW_some] <;> rfl), Kd.N_V (Kd.N_nil _ _ _ 0 _), by repeat (first | (with_reducible first | exact HB.out | apply below_alloc | apply pw_below_drewN | apply below_drew1) | exact HB.out)⟩
    ·rw [if_neg c3] at H
     exact absurd H (by simp)
   ·rw [if_neg c2] at H
    have c2b0 : decide (x4_1 < (l0.length : Int)) = false := decide_eq_false c2
    clear c2
    replace H := Option.bind_eq_some_iff.mp H
    obtain ⟨t230, A110, H⟩ := H
    replace H : ((erasureref06_fits.f k1 t230).bind fun bt233 => (some (bt233.1, bt233.2))) = some (r1, r2) := H
    have A11 := Aside0.mk A110
    clear A110
    replace H := Option.bind_eq_some_iff.mp H
    obtain ⟨⟨t233, t236⟩, A120, H⟩ := H
    replace H : (some (t233, t236)) = some (r1, r2) := H
    have A12 := Aside0.mk A120
    clear A120
    simp only [Option.some.injEq, Prod.mk.injEq] at H
    obtain ⟨rfl, rfl⟩ := H
    go_wp2_with (first | ((with_reducible refine gate_callee (f := 34) rfl ?_); refine goesL_ (some 28) rfl rfl Try.func34 (by kernel_rfl) rfl #[.slice A0 l0.length c0] rfl (by (try simp only [List.map_toArray, List.map_cons, List.map_nil]); first | done | rfl | (simp only [List.length_drop, List.length_take]; rfl)) ?_; (with_reducible refine (erasureref06_sort.calls k1 (fun k_ => (P0_ k_ ∨ w.heap.size ≤ k_)) _ _ l0 t230 _ ?side1 A11.out).mono ?_); (case side1 => exact HO_0.out); rintro e w13 ⟨v231, rfl, ho0, hb⟩; refine ⟨_, rfl, ?_⟩; have n0_ := Aside0.mk (Kd.V_elder' (by (with_reducible repeat (first | apply Kd.V_alloc | apply Kd.V_drewN | apply Kd.V_drew)); exact HO_0.out) (Kd.N_base ho0) hb); have n1_ := Aside0.mk (Kd.N_lower (Kd.N_mono (ok' := fun k_ => (P0_ k_ ∨ w.heap.size ≤ k_)) ho0 (fun k_ hk_ => Or.elim hk_ (fun hs_ => hs_) (fun hn_ => (.inr (Nat.le_trans (below_size (by repeat (first | (with_reducible first | exact HB.out | apply below_alloc | apply pw_below_drewN | apply below_drew1) | exact HB.out))) hn_))))) (below_size (by repeat (first | (with_reducible first | exact HB.out | apply below_alloc | apply pw_below_drewN | apply below_drew1) | exact HB.out)))); have n2_ := Aside0.mk (below_step (by repeat (first | (with_reducible first | exact HB.out | apply below_alloc | apply pw_below_drewN | apply below_drew1) | exact HB.out)) hb); clear HO_0; clear HB; have HO_0 := n0_; have HO232 := n1_; have HB := n2_; clear n0_ n1_ n2_; (try clear hb); (try clear hb2); (try clear hk); (try clear hi); (try clear ho0); obtain ⟨Ao14, co14, eo14⟩ := Kd.N_slice HO232.out; subst eo14) | ((with_reducible refine gate_callee (f := 33) rfl ?_); refine goesL_ (some 29) rfl rfl Try.func33 (by kernel_rfl) rfl #[.slice Ao14 t230.length co14] rfl (by (try simp only [List.map_toArray, List.map_cons, List.map_nil]); first | done | rfl | (simp only [List.length_drop, List.length_take]; rfl)) ?_; (with_reducible refine (erasureref06_fits.calls k1 (fun k_ => (P0_ k_ ∨ w.heap.size ≤ k_)) _ _ t230 t233 t236 _ ?side1 A12.out).mono ?_); (case side1 => exact Kd.N_V (HO232.out)); rintro e w15 ⟨v234, rfl, ho0, hb⟩; refine ⟨_, rfl, ?_⟩; have n0_ := Aside0.mk (Kd.V_below (by (with_reducible repeat (first | apply Kd.V_alloc | apply Kd.V_drewN | apply Kd.V_drew)); exact HO_0.out) hb); have n1_ := Aside0.mk (Kd.N_below (by (with_reducible repeat (first | apply Kd.N_alloc | apply Kd.N_drewN | apply Kd.N_drew)); exact HO232.out) hb); have n2_ := Aside0.mk (Kd.V_lower (Kd.V_mono (ok' := fun k_ => (P0_ k_ ∨ w.heap.size ≤ k_)) ho0 (fun k_ hk_ => Or.elim hk_ (fun hs_ => hs_) (fun hn_ => (.inr (Nat.le_trans (below_size (by repeat (first | (with_reducible first | exact HB.out | apply below_alloc | apply pw_below_drewN | apply below_drew1) | exact HB.out))) hn_))))) (below_size (by repeat (first | (with_reducible first | exact HB.out | apply below_alloc | apply pw_below_drewN | apply below_drew1) | exact HB.out)))); have n3_ := Aside0.mk (below_step (by repeat (first | (with_reducible first | exact HB.out | apply below_alloc | apply pw_below_drewN | apply below_drew1) | exact HB.out)) hb); clear HO_0; clear HO232; clear HB; have HO_0 := n0_; have HO232 := n1_; have HO235 := n2_; have HB := n3_; clear n0_ n1_ n2_ n3_; (try clear hb); (try clear hb2); (try clear hk); (try clear hi); (try clear ho0)))
    go_ret2
    exact ⟨_, by first | rfl | (simp [errW_none, errW_some] <;> rfl) | (simp [*, errW_none, errW_some] <;> rfl), by (with_reducible repeat (first | apply Kd.V_alloc | apply Kd.V_drewN | apply Kd.V_drew)); exact HO235.out, by repeat (first | (with_reducible first | exact HB.out | apply below_alloc | apply pw_below_drewN | apply below_drew1) | exact HB.out)⟩
end Go.Proofs.Ytjhnpaenhdbhpaa.P
namespace Go.Proofs.Ytjhnpaenhdbhpaa.P
open Go.RowKit Go.Proofs.YtjhnpaenhdbhpaaW.PrintWords Go.Proofs.YtjhnpaenhdbhpaaW.PrintLast Go.Proofs.YtjhnpaenhdbhpaaW.PrintMore
attribute [local go_sem] max2_int min2_int max_two min_two max_three min_three max_four min_four
set_option linter.unusedVariables false
set_option linter.unusedSimpArgs false
attribute [local go_sem high] eqA38
def erasureref22_SameRow.l0 : Nat → List (S38) → List (S38) → Int → Option (Bool)
 | 0, _, _, _ => none
 | k + 1, x0, x1, x5 => if x5 < (x0.length : Int) then (if 0 ≤ x5 then (if x5 < (x1.length : Int) then (if (!(((rd_T38 x0 x5).f0) == ((rd_T38 x1 x5).f0)) || (!(((rd_T38 x0 x5).f1) == ((rd_T38 x1 x5).f1)) || (!((((rd_T38 x0 x5).f2).toList) == (((rd_T38 x1 x5).f2).toList))))) = true then (some false) else (erasureref22_SameRow.l0 k x0 x1 (wrap64 (x5 + 1)))) else (none)) else (none)) else (some true)
def erasureref22_SameRow.f (k : Nat) (l0 : List (S38)) (l1 : List (S38)) : Option (Bool) := if (l0.length : Int) = (l1.length : Int) then (erasureref22_SameRow.l0 k l0 l1 0) else (some false)
set_option maxHeartbeats 8000000 in
set_option maxRecDepth 100000 in
theorem erasureref22_SameRow.calls (k : Nat) (A0 : Option Addr) (c0 : Nat) (l0 : List (S38)) (A1 : Option Addr) (c1 : Nat) (l1 : List (S38)) (r : Bool) (w : World) (hr0 : Kd.C k38 w A0 l0.length l0) (hc0 : l0.length ≤ c0) (hr1 : Kd.C k38 w A1 l1.length l1) (hc1 : l1.length ≤ c1) (h : erasureref22_SameRow.f k l0 l1 = some r) :
  Calls Try.prog 40 #[.slice A0 l0.length c0, .slice A1 l1.length c1] w fun e w' => e = .returned (.bool r) ∧ Drawn0 w w' := by
 have hu38 := Try.underlying38
 have HR0 := Aside0.mk hr0
 have HC0 := Aside0.mk hc0
 clear hr0 hc0
 have HR1 := Aside0.mk hr1
 have HC1 := Aside0.mk hc1
 clear hr1 hc1
 have H : (if (l0.length : Int) = (l1.length : Int) then (erasureref22_SameRow.l0 k l0 l1 0) else (some false)) = some r := h
 clear h
 by_cases c3 : (l0.length : Int) = (l1.length : Int)
 ·rw [if_pos c3] at H
  have c3b0 : ((l0.length : Int) == (l1.length : Int)) = true := beq_iff_eq.mpr c3
  have c3b1 : ((l0.length : Int) != (l1.length : Int)) = false := bne_eq_false_iff_eq.mpr c3
  have c3b2 : (l0.length == l1.length) = true := by first | simpa using c3 | (simp at c3 ⊢; omega)
  clear c3
  have H' := Aside0.mk H
  clear H
  go_enter Try.func40, Try.ntmps40
  go_wp2
  repeat (go_quiet (fail); try go_wp2)
  go_loopg [5] k (fun kq v5 w' => ∃ (x5_1 : Int), v5 = .int .i64 x5_1 ∧ Aside0 (erasureref22_SameRow.l0 kq l0 l1 x5_1 = some r) ∧ Aside0 (kq ≤ k) ∧ Drawn0 w w')
  case atStart => exact ⟨(0), (by first | rfl | (simp; done) | (simp [*]; done)), H', ⟨Nat.le_refl _⟩, by repeat (first | exact Drawn0.refl _ | apply Drawn0.step)⟩
  case round =>
   clear H'
   try clear c1
   try clear p2
   try clear c3
   try clear c3b0
   try clear c3b1
   try clear c3b2
   obtain ⟨x5_1, rfl, HA, HK1, ⟨m1, rfl⟩⟩ := hrel
   cases gk with
   | zero => exact absurd HA.out (by simp [erasureref22_SameRow.l0])
   | succ k1 =>
    have H := HA.out
    clear HA
    simp only [erasureref22_SameRow.l0] at H
    by_cases c4 : x5_1 < (l0.length : Int)
    ·rw [if_pos c4] at H
     have c4b0 : decide (x5_1 < (l0.length : Int)) = true := decide_eq_true c4
     clear c4
     by_cases c5 : 0 ≤ x5_1
     ·rw [if_pos c5] at H
      have c5b0 : decide (0 ≤ x5_1) = true := decide_eq_true c5
      clear c5
      by_cases c6 : x5_1 < (l1.length : Int)
      ·rw [if_pos c6] at H
       have c6b0 : decide (x5_1 < (l1.length : Int)) = true := decide_eq_true c6
       clear c6
       by_cases c7 : (!(((rd_T38 l0 x5_1).f0) == ((rd_T38 l1 x5_1).f0)) || (!(((rd_T38 l0 x5_1).f1) == ((rd_T38 l1 x5_1).f1)) || (!((((rd_T38 l0 x5_1).f2).toList) == (((rd_T38 l1 x5_1).f2).toList))))) = true
       ·rw [if_pos c7] at H
        have c7b0 : (!(((rd_T38 l0 x5_1).f0) == ((rd_T38 l1 x5_1).f0)) || (!(((rd_T38 l0 x5_1).f1) == ((rd_T38 l1 x5_1).f1)) || (!((((rd_T38 l0 x5_1).f2).toList) == (((rd_T38 l1 x5_1).f2).toList))))) = true := c7
        clear c7
        obtain rfl := Option.some.inj H
        have p241 : 0 ≤ (x5_1 : Int) := of_decide_eq_true (by first | (with_reducible assumption) | assumption)
        have q241 : x5_1 < (l0.length : Int) := of_decide_eq_true (by first | (with_reducible assumption) | assumption)
        obtain ⟨ad241, e241, hx241_0, hx241_1, hx241_2⟩ := at_T38 HR0.out x5_1 p241 q241
        cases e241
        replace p241 := eq_true p241
        replace q241 := eq_true q241
        have p242 : 0 ≤ (x5_1 : Int) := of_decide_eq_true (by first | (with_reducible assumption) | assumption)
        have q242 : x5_1 < (l1.length : Int) := of_decide_eq_true (by first | (with_reducible assumption) | assumption)
        obtain ⟨ad242, e242, hx242_0, hx242_1, hx242_2⟩ := at_T38 HR1.out x5_1 p242 q242
        cases e242
        replace p242 := eq_true p242
        replace q242 := eq_true q242
        go_wp2
        repeat (go_quiet (fail); try go_wp2)
        go_ret
        exact ⟨by first | rfl | (simp; done) | (simp [*]; done), by repeat (first | exact Drawn0.refl _ | apply Drawn0.step)⟩
       ·rw [if_neg c7] at H
        have c7b0 : (!(((rd_T38 l0 x5_1).f0) == ((rd_T38 l1 x5_1).f0)) || (!(((rd_T38 l0 x5_1).f1) == ((rd_T38 l1 x5_1).f1)) || (!((((rd_T38 l0 x5_1).f2).toList) == (((rd_T38 l1 x5_1).f2).toList))))) = false := by simpa using c7
        clear c7
        have H' := Aside0.mk H
        clear H
        have p241 : 0 ≤ (x5_1 : Int) := of_decide_eq_true (by first | (with_reducible assumption) | assumption)
        have q241 : x5_1 < (l0.length : Int) := of_decide_eq_true (by first | (with_reducible assumption) | assumption)
        obtain ⟨ad241, e241, hx241_0, hx241_1, hx241_2⟩ := at_T38 HR0.out x5_1 p241 q241
        cases e241
        replace p241 := eq_true p241
        replace q241 := eq_true q241
        have p242 : 0 ≤ (x5_1 : Int) := of_decide_eq_true (by first | (with_reducible assumption) | assumption)
        have q242 : x5_1 < (l1.length : Int) := of_decide_eq_true (by first | (with_reducible assumption) | assumption)
        obtain ⟨ad242, e242, hx242_0, hx242_1, hx242_2⟩ := at_T38 HR1.out x5_1 p242 q242
        cases e242
        replace p242 := eq_true p242
        replace q242 := eq_true q242
        go_wp2
        repeat (go_quiet (fail); try go_wp2)
        go_roundg k1
        case measure => have := HK1.out; omega
        case rel => exact ⟨(wrap64 (x5_1 + 1)), (by first | rfl | (simp; done) | (simp [*]; done)), H', ⟨by have := HK1.out; omega⟩, by repeat (first | exact Drawn0.refl _ | apply Drawn0.step)⟩
      ·rw [if_neg c6] at H
       exact absurd H (by simp)
     ·rw [if_neg c5] at H
      exact absurd H (by simp)
    ·rw [if_neg c4] at H
     have c4b0 : decide (x5_1 < (l0.length : Int)) = false := decide_eq_false c4
     clear c4
     obtain rfl := Option.some.inj H
     go_wp2
     repeat (go_quiet (fail); try go_wp2)
     go_ret
     exact ⟨by first | rfl | (simp; done) | (simp [*]; done), by repeat (first | exact Drawn0.refl _ | apply Drawn0.step)⟩
 ·rw [if_neg c3] at H
  have c3b0 : ((l0.length : Int) == (l1.length : Int)) = false := beq_eq_false_iff_ne.mpr c3
  have c3b1 : ((l0.length : Int) != (l1.length : Int)) = true := bne_iff_ne.mpr c3
  have c3b2 : (l0.length == l1.length) = false := by first | simpa using c3 | (simp at c3 ⊢; omega)
  obtain rfl := Option.some.inj H
  go_enter Try.func40, Try.ntmps40
  go_wp2
  repeat (go_quiet (fail); try go_wp2)
  go_ret
  exact ⟨by first | rfl | (simp; done) | (simp [*]; done), by repeat (first | exact Drawn0.refl _ | apply Drawn0.step)⟩
end Go.Proofs.Ytjhnpaenhdbhpaa.P
namespace Go.Proofs.Ytjhnpaenhdbhpaa.P
open Go.RowKit Go.Proofs.YtjhnpaenhdbhpaaW.PrintWords Go.Proofs.YtjhnpaenhdbhpaaW.PrintLast Go.Proofs.YtjhnpaenhdbhpaaW.PrintMore
attribute [local go_sem] max2_int min2_int max_two min_two max_three min_three max_four min_four
set_option linter.unusedVariables false
set_option linter.unusedSimpArgs false
def erasureref26_SameRow.f (k : Nat) (l0 : List (S38)) (l1 : List (S38)) : Option (Bool) := (erasureref22_SameRow.f k l0 l1).bind fun t243 => (some t243)
set_option maxHeartbeats 8000000 in
set_option maxRecDepth 100000 in
theorem erasureref26_SameRow.calls (k : Nat) (A0 : Option Addr) (c0 : Nat) (l0 : List (S38)) (A1 : Option Addr) (c1 : Nat) (l1 : List (S38)) (r : Bool) (w : World) (hr0 : Kd.C k38 w A0 l0.length l0) (hc0 : l0.length ≤ c0) (hr1 : Kd.C k38 w A1 l1.length l1) (hc1 : l1.length ≤ c1) (h : erasureref26_SameRow.f k l0 l1 = some r) :
  Calls Try.prog 21 #[.slice A0 l0.length c0, .slice A1 l1.length c1] w fun e w' => e = .returned (.bool r) ∧ Drawn0 w w' := by
 have HR0 := Aside0.mk hr0
 have HC0 := Aside0.mk hc0
 clear hr0 hc0
 have HR1 := Aside0.mk hr1
 have HC1 := Aside0.mk hc1
 clear hr1 hc1
 have H : ((erasureref22_SameRow.f k l0 l1).bind fun t243 => (some t243)) = some r := h
 clear h
 replace H := Option.bind_eq_some_iff.mp H
 obtain ⟨t243, A30, H⟩ := H
 replace H : (some t243) = some r := H
 have A3 := Aside0.mk A30
 clear A30
 obtain rfl := Option.some.inj H
 go_enter Try.func21, Try.ntmps21
 go_wp2_with (first | ((with_reducible refine gate_callee (f := 40) rfl ?_); refine goesL_ (some 7) rfl rfl Try.func40 (by kernel_rfl) rfl #[.slice A0 l0.length c0, .slice A1 l1.length c1] rfl (by (try simp only [List.map_toArray, List.map_cons, List.map_nil]); first | done | rfl | (simp only [List.length_drop, List.length_take]; rfl)) ?_; (with_reducible refine (erasureref22_SameRow.calls k _ _ l0 _ _ l1 t243 _ ?side1 ?side2 ?side3 ?side4 A3.out).mono ?_); (case side1 => repeat (first | exact HR0.out | (with_reducible refine Kd.C_alloc ?_ _) | (with_reducible refine Kd.C_drewN ?_ _) | (with_reducible refine Kd.C_drew ?_))); (case side2 => exact HC0.out); (case side3 => repeat (first | exact HR1.out | (with_reducible refine Kd.C_alloc ?_ _) | (with_reducible refine Kd.C_drewN ?_ _) | (with_reducible refine Kd.C_drew ?_))); (case side4 => exact HC1.out); rintro e w' ⟨rfl, ⟨nd, rfl⟩⟩; refine ⟨_, rfl, ?_⟩))
 go_ret
 exact ⟨by first | rfl | (simp; done) | (simp [*]; done), by repeat (first | exact Drawn0.refl _ | apply Drawn0.step)⟩
end Go.Proofs.Ytjhnpaenhdbhpaa.P
namespace Go.Proofs.Ytjhnpaenhdbhpaa.P
open Go.RowKit Go.Proofs.YtjhnpaenhdbhpaaW.PrintWords Go.Proofs.YtjhnpaenhdbhpaaW.PrintLast Go.Proofs.YtjhnpaenhdbhpaaW.PrintMore
attribute [local go_sem] max2_int min2_int max_two min_two max_three min_three max_four min_four
set_option linter.unusedVariables false
set_option linter.unusedSimpArgs false
def erasureref35_Same.l0 : Nat → List (S43) → List (S43) → Int → Option (Bool)
 | 0, _, _, _ => none
 | k + 1, x0, x1, x5 => if x5 < (x0.length : Int) then (if 0 ≤ x5 then (if x5 < (x1.length : Int) then (if ((rd_T43 x0 x5).f1) = ((rd_T43 x1 x5).f1) then ((erasureref26_SameRow.f k ((rd_T43 x0 x5).f0) ((rd_T43 x1 x5).f0)).bind fun t248 => (if t248 = true then (erasureref35_Same.l0 k x0 x1 (wrap64 (x5 + 1))) else (some false))) else (some false)) else (none)) else (none)) else (some true)
def erasureref35_Same.f (k : Nat) (l0 : List (S43)) (l1 : List (S43)) : Option (Bool) := if (l0.length : Int) = (l1.length : Int) then (erasureref35_Same.l0 k l0 l1 0) else (some false)
set_option maxHeartbeats 8000000 in
set_option maxRecDepth 100000 in
theorem erasureref35_Same.calls (k : Nat) (A0 : Option Addr) (c0 : Nat) (l0 : List (S43)) (A1 : Option Addr) (c1 : Nat) (l1 : List (S43)) (r : Bool) (w : World) (hr0 : Kd.C k43 w A0 l0.length l0) (hc0 : l0.length ≤ c0) (hr1 : Kd.C k43 w A1 l1.length l1) (hc1 : l1.length ≤ c1) (h : erasureref35_Same.f k l0 l1 = some r) :
  Calls Try.prog 14 #[.slice A0 l0.length c0, .slice A1 l1.length c1] w fun e w' => e = .returned (.bool r) ∧ Drawn0 w w' := by
 have HR0 := Aside0.mk hr0
 have HC0 := Aside0.mk hc0
 clear hr0 hc0
 have HR1 := Aside0.mk hr1
 have HC1 := Aside0.mk hc1
 clear hr1 hc1
 have H : (if (l0.length : Int) = (l1.length : Int) then (erasureref35_Same.l0 k l0 l1 0) else (some false)) = some r := h
 clear h
 by_cases c3 : (l0.length : Int) = (l1.length : Int)
 ·rw [if_pos c3] at H
  have c3b0 : ((l0.length : Int) == (l1.length : Int)) = true := beq_iff_eq.mpr c3
  have c3b1 : ((l0.length : Int) != (l1.length : Int)) = false := bne_eq_false_iff_eq.mpr c3
  have c3b2 : (l0.length == l1.length) = true := by first | simpa using c3 | (simp at c3 ⊢; omega)
  clear c3
  have H' := Aside0.mk H
  clear H
  go_enter Try.func14, Try.ntmps14
  go_wp2
  repeat (go_quiet (fail); try go_wp2)
  go_loopg [5] k (fun kq v5 w' => ∃ (x5_1 : Int), v5 = .int .i64 x5_1 ∧ Aside0 (erasureref35_Same.l0 kq l0 l1 x5_1 = some r) ∧ Aside0 (kq ≤ k) ∧ Drawn0 w w')
  case atStart => exact ⟨(0), (by first | rfl | (simp; done) | (simp [*]; done)), H', ⟨Nat.le_refl _⟩, by repeat (first | exact Drawn0.refl _ | apply Drawn0.step)⟩
  case round =>
   clear H'
   try clear c1
   try clear p2
   try clear c3
   try clear c3b0
   try clear c3b1
   try clear c3b2
   obtain ⟨x5_1, rfl, HA, HK1, ⟨m1, rfl⟩⟩ := hrel
   cases gk with
   | zero => exact absurd HA.out (by simp [erasureref35_Same.l0])
   | succ k1 =>
    have H := HA.out
    clear HA
    simp only [erasureref35_Same.l0] at H
    by_cases c4 : x5_1 < (l0.length : Int)
    ·rw [if_pos c4] at H
     have c4b0 : decide (x5_1 < (l0.length : Int)) = true := decide_eq_true c4
     clear c4
     by_cases c5 : 0 ≤ x5_1
     ·rw [if_pos c5] at H
      have c5b0 : decide (0 ≤ x5_1) = true := decide_eq_true c5
      clear c5
      by_cases c6 : x5_1 < (l1.length : Int)
      ·rw [if_pos c6] at H
       have c6b0 : decide (x5_1 < (l1.length : Int)) = true := decide_eq_true c6
       clear c6
       by_cases c7 : ((rd_T43 l0 x5_1).f1) = ((rd_T43 l1 x5_1).f1)
       ·rw [if_pos c7] at H
        have c7b0 : (((rd_T43 l0 x5_1).f1) == ((rd_T43 l1 x5_1).f1)) = true := beq_iff_eq.mpr c7
        have c7b1 : (((rd_T43 l0 x5_1).f1) != ((rd_T43 l1 x5_1).f1)) = false := bne_eq_false_iff_eq.mpr c7
        clear c7
        replace H := Option.bind_eq_some_iff.mp H
        obtain ⟨t248, A80, H⟩ := H
        replace H : (if t248 = true then (erasureref35_Same.l0 k1 l0 l1 (wrap64 (x5_1 + 1))) else (some false)) = some r := H
        have A8 := Aside0.mk A80
        clear A80
        by_cases c9 : t248 = true
        ·subst c9
         have H1 : (erasureref35_Same.l0 k1 l0 l1 (wrap64 (x5_1 + 1))) = some r := by rw [if_pos rfl] at H; exact H
         clear H
         have H := H1
         clear H1
         have H' := Aside0.mk H
         clear H
         have p244 : 0 ≤ (x5_1 : Int) := of_decide_eq_true (by first | (with_reducible assumption) | assumption)
         have q244 : x5_1 < (l0.length : Int) := of_decide_eq_true (by first | (with_reducible assumption) | assumption)
         obtain ⟨ad244, A244_0, c244_0, e244, hx244_0, hx244_1, hl244_0, hi244_0⟩ := at_T43 HR0.out x5_1 p244 q244
         cases e244
         have HR244_0 := Aside0.mk hi244_0
         have HC244_0 := Aside0.mk hl244_0
         clear hi244_0 hl244_0
         replace p244 := eq_true p244
         replace q244 := eq_true q244
         have p245 : 0 ≤ (x5_1 : Int) := of_decide_eq_true (by first | (with_reducible assumption) | assumption)
         have q245 : x5_1 < (l1.length : Int) := of_decide_eq_true (by first | (with_reducible assumption) | assumption)
         obtain ⟨ad245, A245_0, c245_0, e245, hx245_0, hx245_1, hl245_0, hi245_0⟩ := at_T43 HR1.out x5_1 p245 q245
         cases e245
         have HR245_0 := Aside0.mk hi245_0
         have HC245_0 := Aside0.mk hl245_0
         clear hi245_0 hl245_0
         replace p245 := eq_true p245
         replace q245 := eq_true q245
         have p246 : 0 ≤ (x5_1 : Int) := of_decide_eq_true (by first | (with_reducible assumption) | assumption)
         have q246 : x5_1 < (l0.length : Int) := of_decide_eq_true (by first | (with_reducible assumption) | assumption)
         obtain ⟨ad246, A246_0, c246_0, e246, hx246_0, hx246_1, hl246_0, hi246_0⟩ := at_T43 HR0.out x5_1 p246 q246
         obtain rfl : ad244 = ad246 := (by injection e246)
         have HR246_0 := Aside0.mk hi246_0
         have HC246_0 := Aside0.mk hl246_0
         clear hi246_0 hl246_0
         replace p246 := eq_true p246
         replace q246 := eq_true q246
         have ea_ := Option.some.inj (hx244_0.symm.trans hx246_0)
         injection ea_ with ea_ en_ ec_
         subst ea_
         subst ec_
         clear en_
         have p247 : 0 ≤ (x5_1 : Int) := of_decide_eq_true (by first | (with_reducible assumption) | assumption)
         have q247 : x5_1 < (l1.length : Int) := of_decide_eq_true (by first | (with_reducible assumption) | assumption)
         obtain ⟨ad247, A247_0, c247_0, e247, hx247_0, hx247_1, hl247_0, hi247_0⟩ := at_T43 HR1.out x5_1 p247 q247
         obtain rfl : ad245 = ad247 := (by injection e247)
         have HR247_0 := Aside0.mk hi247_0
         have HC247_0 := Aside0.mk hl247_0
         clear hi247_0 hl247_0
         replace p247 := eq_true p247
         replace q247 := eq_true q247
         have ea_ := Option.some.inj (hx245_0.symm.trans hx247_0)
         injection ea_ with ea_ en_ ec_
         subst ea_
         subst ec_
         clear en_
         go_wp2_with (first | (go_at_call 21; (with_reducible refine (erasureref26_SameRow.calls k1 _ _ ((rd_T43 l0 x5_1).f0) _ _ ((rd_T43 l1 x5_1).f0) true _ ?side1 ?side2 ?side3 ?side4 A8.out).mono ?_); (case side1 => repeat (first | exact HR246_0.out | (with_reducible refine Kd.C_alloc ?_ _) | (with_reducible refine Kd.C_drewN ?_ _) | (with_reducible refine Kd.C_drew ?_))); (case side2 => exact HC246_0.out); (case side3 => repeat (first | exact HR247_0.out | (with_reducible refine Kd.C_alloc ?_ _) | (with_reducible refine Kd.C_drewN ?_ _) | (with_reducible refine Kd.C_drew ?_))); (case side4 => exact HC247_0.out); rintro e w' ⟨rfl, ⟨nd, rfl⟩⟩; (try first | exact ⟨rfl, _, World.drewN_drewN _ _ _⟩ | exact ⟨rfl, _, Eq.trans (World.drewN_drewN _ _ _) (congrArg (World.drewN _) (Nat.add_assoc _ _ _))⟩)))
         repeat (go_quiet (first | (go_at_call 21; (with_reducible refine (erasureref26_SameRow.calls k1 _ _ ((rd_T43 l0 x5_1).f0) _ _ ((rd_T43 l1 x5_1).f0) true _ ?side1 ?side2 ?side3 ?side4 A8.out).mono ?_); (case side1 => repeat (first | exact HR246_0.out | (with_reducible refine Kd.C_alloc ?_ _) | (with_reducible refine Kd.C_drewN ?_ _) | (with_reducible refine Kd.C_drew ?_))); (case side2 => exact HC246_0.out); (case side3 => repeat (first | exact HR247_0.out | (with_reducible refine Kd.C_alloc ?_ _) | (with_reducible refine Kd.C_drewN ?_ _) | (with_reducible refine Kd.C_drew ?_))); (case side4 => exact HC247_0.out); rintro e w' ⟨rfl, ⟨nd, rfl⟩⟩; (try first | exact ⟨rfl, _, World.drewN_drewN _ _ _⟩ | exact ⟨rfl, _, Eq.trans (World.drewN_drewN _ _ _) (congrArg (World.drewN _) (Nat.add_assoc _ _ _))⟩))); try go_wp2_with (first | (go_at_call 21; (with_reducible refine (erasureref26_SameRow.calls k1 _ _ ((rd_T43 l0 x5_1).f0) _ _ ((rd_T43 l1 x5_1).f0) true _ ?side1 ?side2 ?side3 ?side4 A8.out).mono ?_); (case side1 => repeat (first | exact HR246_0.out | (with_reducible refine Kd.C_alloc ?_ _) | (with_reducible refine Kd.C_drewN ?_ _) | (with_reducible refine Kd.C_drew ?_))); (case side2 => exact HC246_0.out); (case side3 => repeat (first | exact HR247_0.out | (with_reducible refine Kd.C_alloc ?_ _) | (with_reducible refine Kd.C_drewN ?_ _) | (with_reducible refine Kd.C_drew ?_))); (case side4 => exact HC247_0.out); rintro e w' ⟨rfl, ⟨nd, rfl⟩⟩; (try first | exact ⟨rfl, _, World.drewN_drewN _ _ _⟩ | exact ⟨rfl, _, Eq.trans (World.drewN_drewN _ _ _) (congrArg (World.drewN _) (Nat.add_assoc _ _ _))⟩))))
         go_roundg k1
         case measure => have := HK1.out; omega
         case rel => exact ⟨(wrap64 (x5_1 + 1)), (by first | rfl | (simp; done) | (simp [*]; done)), H', ⟨by have := HK1.out; omega⟩, by repeat (first | exact Drawn0.refl _ | apply Drawn0.step)⟩
        ·replace c9 := Bool.eq_false_iff.mpr c9
         subst c9
         have H1 : (some false) = some r := by rw [if_neg (show ¬ (false = true) by decide)] at H; exact H
         clear H
         have H := H1
         clear H1
         obtain rfl := Option.some.inj H
         have p244 : 0 ≤ (x5_1 : Int) := of_decide_eq_true (by first | (with_reducible assumption) | assumption)
         have q244 : x5_1 < (l0.length : Int) := of_decide_eq_true (by first | (with_reducible assumption) | assumption)
         obtain ⟨ad244, A244_0, c244_0, e244, hx244_0, hx244_1, hl244_0, hi244_0⟩ := at_T43 HR0.out x5_1 p244 q244
         cases e244
         have HR244_0 := Aside0.mk hi244_0
         have HC244_0 := Aside0.mk hl244_0
         clear hi244_0 hl244_0
         replace p244 := eq_true p244
         replace q244 := eq_true q244
         have p245 : 0 ≤ (x5_1 : Int) := of_decide_eq_true (by first | (with_reducible assumption) | assumption)
         have q245 : x5_1 < (l1.length : Int) := of_decide_eq_true (by first | (with_reducible assumption) | assumption)
         obtain ⟨ad245, A245_0, c245_0, e245, hx245_0, hx245_1, hl245_0, hi245_0⟩ := at_T43 HR1.out x5_1 p245 q245
         cases e245
         have HR245_0 := Aside0.mk hi245_0
         have HC245_0 := Aside0.mk hl245_0
         clear hi245_0 hl245_0
         replace p245 := eq_true p245
         replace q245 := eq_true q245
         have p246 : 0 ≤ (x5_1 : Int) := of_decide_eq_true (by first | (with_reducible assumption) | assumption)
         have q246 : x5_1 < (l0.length : Int) := of_decide_eq_true (by first | (with_reducible assumption) | assumption)
         obtain ⟨ad246, A246_0, c246_0, e246, hx246_0, hx246_1, hl246_0, hi246_0⟩ := at_T43 HR0.out x5_1 p246 q246
         obtain rfl : ad244 = ad246 := (by injection e246)
         have HR246_0 := Aside0.mk hi246_0
         have HC246_0 := Aside0.mk hl246_0
         clear hi246_0 hl246_0
         replace p246 := eq_true p246
         replace q246 := eq_true q246
         have ea_ := Option.some.inj (hx244_0.symm.trans hx246_0)
         injection ea_ with ea_ en_ ec_
         subst ea_
         subst ec_
         clear en_
         have p247 : 0 ≤ (x5_1 : Int) := of_decide_eq_true (by first | (with_reducible assumption) | assumption)
         have q247 : x5_1 < (l1.length : Int) := of_decide_eq_true (by first | (with_reducible assumption) | assumption)
         obtain ⟨ad247, A247_0, c247_0, e247, hx247_0, hx247_1, hl247_0, hi247_0⟩ := at_T43 HR1.out x5_1 p247 q247
         obtain rfl : ad245 = ad247 := (by injection e247)
         have HR247_0 := Aside0.mk hi247_0
         have HC247_0 := Aside0.mk hl247_0
         clear hi247_0 hl247_0
         replace p247 := eq_true p247
         replace q247 := eq_true q247
         have ea_ := Option.some.inj (hx245_0.symm.trans hx247_0)
         injection ea_ with ea_ en_ ec_
         subst ea_
         subst ec_
         clear en_
         go_wp2_with (first | (go_at_call 21; (with_reducible refine (erasureref26_SameRow.calls k1 _ _ ((rd_T43 l0 x5_1).f0) _ _ ((rd_T43 l1 x5_1).f0) false _ ?side1 ?side2 ?side3 ?side4 A8.out).mono ?_); (case side1 => repeat (first | exact HR246_0.out | (with_reducible refine Kd.C_alloc ?_ _) | (with_reducible refine Kd.C_drewN ?_ _) | (with_reducible refine Kd.C_drew ?_))); (case side2 => exact HC246_0.out); (case side3 => repeat (first | exact HR247_0.out | (with_reducible refine Kd.C_alloc ?_ _) | (with_reducible refine Kd.C_drewN ?_ _) | (with_reducible refine Kd.C_drew ?_))); (case side4 => exact HC247_0.out); rintro e w' ⟨rfl, ⟨nd, rfl⟩⟩; (try first | exact ⟨rfl, _, World.drewN_drewN _ _ _⟩ | exact ⟨rfl, _, Eq.trans (World.drewN_drewN _ _ _) (congrArg (World.drewN _) (Nat.add_assoc _ _ _))⟩)))
         repeat (go_quiet (first | (go_at_call 21; (with_reducible refine (erasureref26_SameRow.calls k1 _ _ ((rd_T43 l0 x5_1).f0) _ _ ((rd_T43 l1 x5_1).f0) false _ ?side1 ?side2 ?side3 ?side4 A8.out).mono ?_); (case side1 => repeat (first | exact HR246_0.out | (with_reducible refine Kd.C_alloc ?_ _) | (with_reducible refine Kd.C_drewN ?_ _) | (with_reducible refine Kd.C_drew ?_))); (case side2 => exact HC246_0.out); (case side3 => repeat (first | exact HR247_0.out | (with_reducible refine Kd.C_alloc ?_ _) | (with_reducible refine Kd.C_drewN ?_ _) | (with_reducible refine Kd.C_drew ?_))); (case side4 => exact HC247_0.out); rintro e w' ⟨rfl, ⟨nd, rfl⟩⟩; (try first | exact ⟨rfl, _, World.drewN_drewN _ _ _⟩ | exact ⟨rfl, _, Eq.trans (World.drewN_drewN _ _ _) (congrArg (World.drewN _) (Nat.add_assoc _ _ _))⟩))); try go_wp2_with (first | (go_at_call 21; (with_reducible refine (erasureref26_SameRow.calls k1 _ _ ((rd_T43 l0 x5_1).f0) _ _ ((rd_T43 l1 x5_1).f0) false _ ?side1 ?side2 ?side3 ?side4 A8.out).mono ?_); (case side1 => repeat (first | exact HR246_0.out | (with_reducible refine Kd.C_alloc ?_ _) | (with_reducible refine Kd.C_drewN ?_ _) | (with_reducible refine Kd.C_drew ?_))); (case side2 => exact HC246_0.out); (case side3 => repeat (first | exact HR247_0.out | (with_reducible refine Kd.C_alloc ?_ _) | (with_reducible refine Kd.C_drewN ?_ _) | (with_reducible refine Kd.C_drew ?_))); (case side4 => exact HC247_0.out); rintro e w' ⟨rfl, ⟨nd, rfl⟩⟩; (try first | exact ⟨rfl, _, World.drewN_drewN _ _ _⟩ | exact ⟨rfl, _, Eq.trans (World.drewN_drewN _ _ _) (congrArg (World.drewN _) (Nat.add_assoc _ _ _))⟩))))
         go_ret
         exact ⟨by first | rfl | (simp; done) | (simp [*]; done), by repeat (first | exact Drawn0.refl _ | apply Drawn0.step)⟩
       ·rw [if_neg c7] at H
        have c7b0 : (((rd_T43 l0 x5_1).f1) == ((rd_T43 l1 x5_1).f1)) = false := beq_eq_false_iff_ne.mpr c7
        have c7b1 : (((rd_T43 l0 x5_1).f1) != ((rd_T43 l1 x5_1).f1)) = true := bne_iff_ne.mpr c7
        obtain rfl := Option.some.inj H
        have p244 : 0 ≤ (x5_1 : Int) := of_decide_eq_true (by first | (with_reducible assumption) | assumption)
        have q244 : x5_1 < (l0.length : Int) := of_decide_eq_true (by first | (with_reducible assumption) | assumption)
        obtain ⟨ad244, A244_0, c244_0, e244, hx244_0, hx244_1, hl244_0, hi244_0⟩ := at_T43 HR0.out x5_1 p244 q244
        cases e244
        have HR244_0 := Aside0.mk hi244_0
        have HC244_0 := Aside0.mk hl244_0
        clear hi244_0 hl244_0
        replace p244 := eq_true p244
        replace q244 := eq_true q244
        have p245 : 0 ≤ (x5_1 : Int) := of_decide_eq_true (by first | (with_reducible assumption) | assumption)
        have q245 : x5_1 < (l1.length : Int) := of_decide_eq_true (by first | (with_reducible assumption) | assumption)
        obtain ⟨ad245, A245_0, c245_0, e245, hx245_0, hx245_1, hl245_0, hi245_0⟩ := at_T43 HR1.out x5_1 p245 q245
        cases e245
        have HR245_0 := Aside0.mk hi245_0
        have HC245_0 := Aside0.mk hl245_0
        clear hi245_0 hl245_0
        replace p245 := eq_true p245
        replace q245 := eq_true q245
        go_wp2
        repeat (go_quiet (fail); try go_wp2)
        go_ret
        exact ⟨by first | rfl | (simp; done) | (simp [*]; done), by repeat (first | exact Drawn0.refl _ | apply Drawn0.step)⟩
      ·rw [if_neg c6] at H
       exact absurd H (by simp)
     ·rw [if_neg c5] at H
      exact absurd H (by simp)
    ·rw [if_neg c4] at H
     have c4b0 : decide (x5_1 < (l0.length : Int)) = false := decide_eq_false c4
     clear c4
     obtain rfl := Option.some.inj H
     go_wp2
     repeat (go_quiet (fail); try go_wp2)
     go_ret
     exact ⟨by first | rfl | (simp; done) | (simp [*]; done), by repeat (first | exact Drawn0.refl _ | apply Drawn0.step)⟩
 ·rw [if_neg c3] at H
  have c3b0 : ((l0.length : Int) == (l1.length : Int)) = false := beq_eq_false_iff_ne.mpr c3
  have c3b1 : ((l0.length : Int) != (l1.length : Int)) = true := bne_iff_ne.mpr c3
  have c3b2 : (l0.length == l1.length) = false := by first | simpa using c3 | (simp at c3 ⊢; omega)
  obtain rfl := Option.some.inj H
  go_enter Try.func14, Try.ntmps14
  go_wp2
  repeat (go_quiet (fail); try go_wp2)
  go_ret
  exact ⟨by first | rfl | (simp; done) | (simp [*]; done), by repeat (first | exact Drawn0.refl _ | apply Drawn0.step)⟩
end Go.Proofs.Ytjhnpaenhdbhpaa.P
