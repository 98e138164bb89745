/- Part of the proof of ReleaseValid: printed by programs of this repo out of the translation, and by hand. Each theorem's conditions stand in its statement. -/
import Derived.Test.YtjhnpaenhdbhpaaMReleaseValida
import Derived.Test.YtjhnpaenhdbhpaaMReleaseValidb
import Derived.Test.YtjhnpaenhdbhpaaMReleaseValidc
namespace Go.Proofs.Ytjhnpaenhdbhpaa.P
open Go.RowKit Go.Proofs.YtjhnpaenhdbhpaaW.PrintWords Go.Proofs.YtjhnpaenhdbhpaaW.PrintLast Go.Proofs.YtjhnpaenhdbhpaaW.PrintMore
attribute [local go_sem] max2_int min2_int max_two min_two max_three min_three max_four min_four
set_option linter.unusedVariables false
set_option linter.unusedSimpArgs false
mutual
def erasurelaw35_Groups.l0 : Nat → List Int → List (S41) → Int → Option ((List (S41)))
 | 0, _, _, _ => none
 | k + 1, x0, x3, x4 => if x4 < (x0.length : Int) then (erasurelaw35_Groups.j1 k x0 x3 x4 (decide (x4 < 40))) else (erasurelaw35_Groups.j1 k x0 x3 x4 false)
def erasurelaw35_Groups.j1 : Nat → List Int → List (S41) → Int → Bool → Option ((List (S41)))
 | 0, _, _, _, _ => none
 | k + 1, x0, x3, x4, x13 => if x13 = true then (if 0 ≤ x4 then (if x4 < (x0.length : Int) then (if (Go.bits .and .i64 (rd x0 x4) 1023) > 0 then ((erasureref01_Int.f x4).bind fun bt144 => ((erasureref01_Int.f (Go.bits .and .i64 (rd x0 x4) 1023)).bind fun bt147 => (if x3.length < 4398046511104 then (erasurelaw35_Groups.l0 k x0 (x3 ++ [(⟨(([(⟨bt144.1, bt144.2.1, bt144.2.2⟩ : S38), (⟨bt147.1, bt147.2.1, bt147.2.2⟩ : S38)] : List (S38))), 1⟩ : S41)]) (wrap64 (x4 + 1))) else (none)))) else (erasurelaw35_Groups.l0 k x0 x3 (wrap64 (x4 + 1)))) else (none)) else (none)) else (some x3)
end
def erasurelaw35_Groups.f (k : Nat) (l0 : List Int) : Option ((List (S41))) := erasurelaw35_Groups.l0 k l0 ([] : List (S41)) 0
theorem erasurelaw35_Groups.mono_l : ∀ k, (∀ y0 y1 y2, LeO (erasurelaw35_Groups.l0 k y0 y1 y2) (erasurelaw35_Groups.l0 (k + 1) y0 y1 y2)) ∧ (∀ y0 y1 y2 y3, LeO (erasurelaw35_Groups.j1 k y0 y1 y2 y3) (erasurelaw35_Groups.j1 (k + 1) y0 y1 y2 y3))
 | 0 => ⟨fun _ _ _ r h => by simp [erasurelaw35_Groups.l0] at h, fun _ _ _ _ r h => by simp [erasurelaw35_Groups.j1] at h⟩
 | k + 1 => by
  obtain ⟨ih0, ih1⟩ := erasurelaw35_Groups.mono_l k
  refine ⟨?_, ?_⟩
  ·intro y0 y1 y2
   unfold erasurelaw35_Groups.l0
   repeat' first
   | (with_reducible exact ih0 _ _ _)
   | (with_reducible exact ih1 _ _ _ _)
   | (with_reducible exact LeO.refl _)
   | (with_reducible exact LeO.none _)
   | (with_reducible refine LeO.ite ?_ ?_)
   | (with_reducible refine LeO.bind ?_ (fun _ => ?_))
   | exact ih0 _ _ _
   | exact ih1 _ _ _ _
   | exact LeO.none _
   | refine LeO.ite ?_ ?_
   | refine LeO.bind ?_ (fun _ => ?_)
  ·intro y0 y1 y2 y3
   unfold erasurelaw35_Groups.j1
   repeat' first
   | (with_reducible exact ih0 _ _ _)
   | (with_reducible exact ih1 _ _ _ _)
   | (with_reducible exact LeO.refl _)
   | (with_reducible exact LeO.none _)
   | (with_reducible refine LeO.ite ?_ ?_)
   | (with_reducible refine LeO.bind ?_ (fun _ => ?_))
   | exact ih0 _ _ _
   | exact ih1 _ _ _ _
   | exact LeO.none _
   | refine LeO.ite ?_ ?_
   | refine LeO.bind ?_ (fun _ => ?_)
theorem erasurelaw35_Groups.mono : ∀ a0 k, LeO (erasurelaw35_Groups.f k a0) (erasurelaw35_Groups.f (k + 1) a0) := by
 intro a0 k
 obtain ⟨ih0, ih1⟩ := erasurelaw35_Groups.mono_l k
 unfold erasurelaw35_Groups.f
 repeat' first
   | (with_reducible exact ih0 _ _ _)
   | (with_reducible exact ih1 _ _ _ _)
   | (with_reducible exact LeO.refl _)
   | (with_reducible exact LeO.none _)
   | (with_reducible refine LeO.ite ?_ ?_)
   | (with_reducible refine LeO.bind ?_ (fun _ => ?_))
   | exact ih0 _ _ _
   | exact ih1 _ _ _ _
   | exact LeO.none _
   | refine LeO.ite ?_ ?_
   | refine LeO.bind ?_ (fun _ => ?_)
set_option maxHeartbeats 8000000 in
set_option maxRecDepth 100000 in
theorem erasurelaw35_Groups.calls (k : Nat) (A0 : Option Addr) (c0 : Nat) (l0 : List Int) (r : List (S41)) (w : World) (hr0 : Kd.C (Kd.int .i64) w A0 l0.length l0) (hc0 : l0.length ≤ c0) (h : erasurelaw35_Groups.f k l0 = some r) :
  Calls Try.prog 18 #[.slice A0 l0.length c0] w fun e w' => ∃ v0_ : Value, e = .returned (v0_) ∧ Kd.S k41 41 w' w.heap.size (fun _ => True) v0_ r ∧ Below w.heap.size w w' := by
 have hu41 := Try.underlying41
 have HR0 := Aside0.mk hr0
 have HC0 := Aside0.mk hc0
 clear hr0 hc0
 have HB := Aside0.mk (Below.refl w.heap.size w)
 have H : (erasurelaw35_Groups.l0 k l0 ([] : List (S41)) 0) = some r := h
 clear h
 have H' := Aside0.mk H
 clear H
 go_enter Try.func18, Try.ntmps18
 go_wp2
 go_loopg [3, 4] k (fun kq v3 v4 w' => ∃ (x3_1 : List (S41)) (x4_1 : Int), v4 = .int .i64 x4_1 ∧ Aside0 (erasurelaw35_Groups.l0 kq l0 x3_1 x4_1 = some r) ∧ Aside0 (kq ≤ k) ∧ Aside0 (Kd.S k41 41 w' w.heap.size (fun _ => True) v3 x3_1) ∧ Aside0 (Below w.heap.size w w'))
 case atStart => exact ⟨(([] : List (S41))), (0), (by first | rfl | (simp; done) | (simp [*]; done)), H', ⟨Nat.le_refl _⟩, ⟨by first | exact Kd.S_nil _ _ _ _ _ | exact Kd.N_nil _ _ _ _ _ | exact Kd.V_nil _ _ _ _ _ | exact Kd.Q_nil _ _ _ _ _ | exact Kd.R_nil _ _ _ _ _⟩, ⟨by repeat (first | (with_reducible first | exact HB.out | apply below_alloc | apply pw_below_drewN | apply below_drew1) | exact HB.out)⟩⟩
 case round =>
  clear H'
  try clear c1
  obtain ⟨x3_1, x4_1, rfl, HA, HK1, HO_3, HB⟩ := hrel
  cases gk with
  | zero => exact absurd HA.out (by simp [erasurelaw35_Groups.l0])
  | succ k1 =>
   have H := HA.out
   clear HA
   simp only [erasurelaw35_Groups.l0] at H
   have HC2 := Aside0.mk H
   clear H
   go_upto_region 3 with (fail)
   go_cut [13] (fun v13 wc => ∃ (kq : Nat) (x13_1 : Bool), v13 = .bool x13_1 ∧ Aside0 (erasurelaw35_Groups.j1 kq l0 x3_1 x4_1 x13_1 = some r) ∧ Aside0 (kq ≤ k1) ∧ Aside0 (Kd.S k41 41 wc w.heap.size (fun _ => True) u3 x3_1) ∧ Aside0 (Below w.heap.size w wc))
   case first =>
    have H := HC2.out
    clear HC2
    by_cases c3 : x4_1 < (l0.length : Int)
    ·rw [if_pos c3] at H
     have c3b0 : decide (x4_1 < (l0.length : Int)) = true := decide_eq_true c3
     clear c3
     (first | rw [c3b0] | (simp only [i64_w, i32_w]; rw [c3b0]) | skip)
     have H' := Aside0.mk H
     clear H
     go_wp2
     go_meet
     case rel => exact ⟨_, (decide (x4_1 < 40)), (by first | rfl | (simp; done) | (simp [*]; done)), H', ⟨by have := HK1.out; first | omega | exact Nat.le_refl _⟩, ⟨by (with_reducible repeat (first | apply Kd.S_alloc | apply Kd.S_drewN | apply Kd.S_drew)); exact HO_3.out⟩, ⟨by repeat (first | (with_reducible first | exact HB.out | apply below_alloc | apply pw_below_drewN | apply below_drew1) | exact HB.out)⟩⟩
    ·rw [if_neg c3] at H
     have c3b0 : decide (x4_1 < (l0.length : Int)) = false := decide_eq_false c3
     clear c3
     (first | rw [c3b0] | (simp only [i64_w, i32_w]; rw [c3b0]) | skip)
     have H' := Aside0.mk H
     clear H
     go_wp2
     go_meet
     case rel => exact ⟨_, (false), (by first | rfl | (simp; done) | (simp [*]; done)), H', ⟨by have := HK1.out; first | omega | exact Nat.le_refl _⟩, ⟨by (with_reducible repeat (first | apply Kd.S_alloc | apply Kd.S_drewN | apply Kd.S_drew)); exact HO_3.out⟩, ⟨by repeat (first | (with_reducible first | exact HB.out | apply below_alloc | apply pw_below_drewN | apply below_drew1) | exact HB.out)⟩⟩
   case rest =>
    clear HC2
    try clear c1
    try clear p2
    try clear c3
    try clear c3b0
    obtain ⟨kq, x13_1, rfl, HA, HJ1, HO_3, HB⟩ := hcut
    cases kq with
    | zero => exact absurd HA.out (by simp [erasurelaw35_Groups.j1])
    | succ kj1 =>
     have H := HA.out
     clear HA
     simp only [erasurelaw35_Groups.j1] at H
     by_cases c4 : x13_1 = true
     ·subst c4
      have H1 : (if 0 ≤ x4_1 then (if x4_1 < (l0.length : Int) then (if (Go.bits .and .i64 (rd l0 x4_1) 1023) > 0 then ((erasureref01_Int.f x4_1).bind fun bt144 => ((erasureref01_Int.f (Go.bits .and .i64 (rd l0 x4_1) 1023)).bind fun bt147 => (if x3_1.length < 4398046511104 then (erasurelaw35_Groups.l0 kj1 l0 (x3_1 ++ [(⟨(([(⟨bt144.1, bt144.2.1, bt144.2.2⟩ : S38), (⟨bt147.1, bt147.2.1, bt147.2.2⟩ : S38)] : List (S38))), 1⟩ : S41)]) (wrap64 (x4_1 + 1))) else (none)))) else (erasurelaw35_Groups.l0 kj1 l0 x3_1 (wrap64 (x4_1 + 1)))) else (none)) else (none)) = some r := by rw [if_pos rfl] at H; exact H
      clear H
      have H := H1
      clear H1
      by_cases c5 : 0 ≤ x4_1
      ·rw [if_pos c5] at H
       have c5b0 : decide (0 ≤ x4_1) = true := decide_eq_true c5
       clear c5
       by_cases c6 : x4_1 < (l0.length : Int)
       ·rw [if_pos c6] at H
        have c6b0 : decide (x4_1 < (l0.length : Int)) = true := decide_eq_true c6
        clear c6
        by_cases c7 : (Go.bits .and .i64 (rd l0 x4_1) 1023) > 0
        ·rw [if_pos c7] at H
         have c7b0 : decide (0 < (Go.bits .and .i64 (rd l0 x4_1) 1023)) = true := decide_eq_true c7
         clear c7
         replace H := Option.bind_eq_some_iff.mp H
         obtain ⟨⟨t144, t145, t146⟩, A80, H⟩ := H
         replace H : ((erasureref01_Int.f (Go.bits .and .i64 (rd l0 x4_1) 1023)).bind fun bt147 => (if x3_1.length < 4398046511104 then (erasurelaw35_Groups.l0 kj1 l0 (x3_1 ++ [(⟨(([(⟨t144, t145, t146⟩ : S38), (⟨bt147.1, bt147.2.1, bt147.2.2⟩ : S38)] : List (S38))), 1⟩ : S41)]) (wrap64 (x4_1 + 1))) else (none))) = some r := H
         have A8 := Aside0.mk A80
         clear A80
         replace H := Option.bind_eq_some_iff.mp H
         obtain ⟨⟨t147, t148, t149⟩, A90, H⟩ := H
         replace H : (if x3_1.length < 4398046511104 then (erasurelaw35_Groups.l0 kj1 l0 (x3_1 ++ [(⟨(([(⟨t144, t145, t146⟩ : S38), (⟨t147, t148, t149⟩ : S38)] : List (S38))), 1⟩ : S41)]) (wrap64 (x4_1 + 1))) else (none)) = some r := H
         have A9 := Aside0.mk A90
         clear A90
         obtain ⟨y150, hy150⟩ : ∃ y_ : List (S38), y_ = (([(⟨t144, t145, t146⟩ : S38), (⟨t147, t148, t149⟩ : S38)] : List (S38))) := ⟨_, rfl⟩
         replace H : (if x3_1.length < 4398046511104 then (erasurelaw35_Groups.l0 kj1 l0 (x3_1 ++ [(⟨y150, 1⟩ : S41)]) (wrap64 (x4_1 + 1))) else (none)) = some r := by first | (rw [hy150]; with_reducible exact H) | (have H2_ := (Option.bind_some _ _).symm.trans H; rw [hy150]; with_reducible exact H2_) | (have H2_ := (Option.bind_some _ _).symm.trans H; with_reducible exact H2_) | with_reducible exact H | (rw [hy150]; exact H) | exact H
         have Ny150 := Aside0.mk hy150
         clear hy150
         by_cases c10 : x3_1.length < 4398046511104
         ·rw [if_pos c10] at H
          have LMc10 := Aside0.mk c10
          clear c10
          obtain ⟨y153, hy153⟩ : ∃ y_ : List (S41), y_ = (x3_1 ++ [(⟨y150, 1⟩ : S41)]) := ⟨_, rfl⟩
          replace H : (erasurelaw35_Groups.l0 kj1 l0 y153 (wrap64 (x4_1 + 1))) = some r := by first | (rw [hy153]; with_reducible exact H) | (have H2_ := (Option.bind_some _ _).symm.trans H; rw [hy153]; with_reducible exact H2_) | (have H2_ := (Option.bind_some _ _).symm.trans H; with_reducible exact H2_) | with_reducible exact H | (rw [hy153]; exact H) | exact H
          have Ny153 := Aside0.mk hy153
          clear hy153
          have H' := Aside0.mk H
          clear H
          have p143 : 0 ≤ (x4_1 : Int) := of_decide_eq_true (by first | (with_reducible assumption) | assumption)
          have q143 : x4_1 < (l0.length : Int) := of_decide_eq_true (by first | (with_reducible assumption) | assumption)
          obtain ⟨ad143, e143, hx143_0⟩ := Kd.at_int HR0.out x4_1 p143 q143
          cases e143
          replace hx143_0 := (HB.out.cell (World.block_lt_of_cell? w _ hx143_0)).trans hx143_0
          replace p143 := eq_true p143
          replace q143 := eq_true q143
          go_wp2_with (first | ((with_reducible refine gate_callee (f := 20) rfl ?_); refine goesL_ (some 25) rfl rfl Try.func20 (by kernel_rfl) rfl #[.int .i64 x4_1] rfl (by (try simp only [List.map_toArray, List.map_cons, List.map_nil]); first | done | rfl | (simp only [List.length_drop, List.length_take]; rfl)) ?_; (with_reducible refine (erasureref01_Int.calls x4_1 t144 t145 t146 _ A8.out).mono ?_); rintro e w11 ⟨rfl, hb⟩; refine ⟨_, rfl, ?_⟩; have n0_ := Aside0.mk (Kd.S_below (by (with_reducible repeat (first | apply Kd.S_alloc | apply Kd.S_drewN | apply Kd.S_drew)); exact HO_3.out) hb); have n1_ := Aside0.mk (below_step (by repeat (first | (with_reducible first | exact HB.out | apply below_alloc | apply pw_below_drewN | apply below_drew1) | exact HB.out)) hb); clear HO_3; clear HB; have HO_3 := n0_; have HB := n1_; clear n0_ n1_; (try clear hb); (try clear hb2); (try clear hk); (try clear hi)) | ((with_reducible refine gate_callee (f := 20) rfl ?_); refine goesL_ (some 27) rfl rfl Try.func20 (by kernel_rfl) rfl #[.int .i64 (Go.bits .and .i64 (rd l0 x4_1) 1023)] rfl (by (try simp only [List.map_toArray, List.map_cons, List.map_nil]); first | done | rfl | (simp only [List.length_drop, List.length_take]; rfl)) ?_; (with_reducible refine (erasureref01_Int.calls (Go.bits .and .i64 (rd l0 x4_1) 1023) t147 t148 t149 _ A9.out).mono ?_); rintro e w12 ⟨rfl, hb⟩; refine ⟨_, rfl, ?_⟩; have n0_ := Aside0.mk (Kd.S_below (by (with_reducible repeat (first | apply Kd.S_alloc | apply Kd.S_drewN | apply Kd.S_drew)); exact HO_3.out) hb); have n1_ := Aside0.mk (below_step (by repeat (first | (with_reducible first | exact HB.out | apply below_alloc | apply pw_below_drewN | apply below_drew1) | exact HB.out)) hb); clear HO_3; clear HB; have HO_3 := n0_; have HB := n1_; clear n0_ n1_; (try clear hb); (try clear hb2); (try clear hk); (try clear hi)) | ((with_reducible refine gate_dst (N := 28) rfl ?_); refine Kd.R_lit k38 _ 38 ?hg (N := 28) ?hd (xs := ([(⟨t144, t145, t146⟩ : S38), (⟨t147, t148, t149⟩ : S38)] : List (S38))) (inner := [.int .i64 t144, .int .i64 t145, .string t146, .int .i64 t147, .int .i64 t148, .string t149]) (ok := fun _ => True) (okp := fun _ => True) ?hr ?hp (fun _ hk => hk) trivial (Below.refl _ _) (Nat.le_refl _) (by simp) ?_; (case hd => rfl); (case hg => rfl); (case hr => first | (go_simp; done) | (go_simp; rfl)); (case hp => exact (Reps.c3 (show Kd.M k38 _ _ _ (⟨t144, t145, t146⟩ : S38) [.int .i64 t144, .int .i64 t145, .string t146] from (k38_mkM _ _ _ (⟨t144, t145, t146⟩ : S38) )) (Reps.c3 (show Kd.M k38 _ _ _ (⟨t147, t148, t149⟩ : S38) [.int .i64 t147, .int .i64 t148, .string t149] from (k38_mkM _ _ _ (⟨t147, t148, t149⟩ : S38) )) (Reps.none _ _)))); intro v151 w13 ho14 hb hg_ hnew_; clear hg_ hnew_; (first | rw [← Ny150.out] at ho14 | (simp only [Int.reduceToNat] at ho14; rw [← Ny150.out] at ho14)); have n0_ := Aside0.mk (Kd.S_elder' (by (with_reducible repeat (first | apply Kd.S_alloc | apply Kd.S_drewN | apply Kd.S_drew)); exact HO_3.out) (Kd.R_base ho14) hb); have n1_ := Aside0.mk (Kd.R_lower ho14 (below_size (by repeat (first | (with_reducible first | exact HB.out | apply below_alloc | apply pw_below_drewN | apply below_drew1) | exact HB.out)))); have n2_ := Aside0.mk (below_step (by repeat (first | (with_reducible first | exact HB.out | apply below_alloc | apply pw_below_drewN | apply below_drew1) | exact HB.out)) hb); clear HO_3; clear HB; have HO_3 := n0_; have HO152 := n1_; have HB := n2_; clear n0_ n1_ n2_; clear hb ho14; obtain ⟨Ao15, co15, eo15⟩ := Kd.R_slice HO152.out; subst eo15) | ((with_reducible refine gate_builtin (b := .append) (xs := #[.tmp 23, .tmp 30]) rfl ?_); at_builtin; refine Kd.S_append k41 (w0 := w) w.heap.size rfl (.tmp 23) (.tmp 30) 24 41 (.agg #[(.slice none 0 0), (.int .i64 0)]) 32 rfl Try.underlying24 info41 rfl (by decide) (by omega) u3 x3_1 (⟨y150, 1⟩ : S41) [.slice Ao15 y150.length co15, .int .i64 1] (fun _ => True) (fun k_ => some k_ = (.slice Ao15 y150.length co15 : Value).ownBlock) rfl rfl ?aP (fun k_ hk_ => ((Kd.R_mono (ok' := fun k_ => ((fun _ => True)) k_ ∧ some k_ ≠ (u3 : Value).ownBlock) (Kd.R_apart' (HO152.out) (Kd.S_typed HO_3.out) (by decide)) (fun k_ hk => ⟨trivial, hk.2⟩))).1 k_ hk_.symm) ?aF ?aO ?aB ?aS ?aL ?_; (case aP => exact k41_mkM _ _ _ (⟨y150, 1⟩ : S41) (Kd.R_mono (Kd.R_tight rfl (Kd.R_mono (ok' := fun k_ => ((fun _ => True)) k_ ∧ some k_ ≠ (u3 : Value).ownBlock) (Kd.R_apart' (HO152.out) (Kd.S_typed HO_3.out) (by decide)) (fun k_ hk => ⟨trivial, hk.2⟩))) (fun _ h_ => h_))); (case aB => exact (by repeat (first | (with_reducible first | exact HB.out | apply below_alloc | apply pw_below_drewN | apply below_drew1) | exact HB.out))); (case aF => exact (fun _ _ => trivial)); (case aO => exact (by (with_reducible repeat (first | apply Kd.S_alloc | apply Kd.S_drewN | apply Kd.S_drew)); exact Kd.S_mono HO_3.out (fun k_ hk => ⟨trivial, fun e_ => hk.2 e_⟩))); (case aS => exact (below_size (by repeat (first | (with_reducible first | exact HB.out | apply below_alloc | apply pw_below_drewN | apply below_drew1) | exact HB.out)))); (case aL => have := LMc10.out; omega); intro v154 w16 ho hb hg hat; rw [← Ny153.out] at ho; have n0_ := Aside0.mk (hb); have n1_ := Aside0.mk (ho); clear HB; clear HO_3; clear HO152; have HB := n0_; have HO155 := n1_; clear n0_ n1_; clear ho hb hg hat))
          go_roundg kj1
          case measure => have := HK1.out; have := HJ1.out; omega
          case rel => exact ⟨(y153), (wrap64 (x4_1 + 1)), (by first | rfl | (simp; done) | (simp [*]; done)), H', ⟨by have := HK1.out; have := HJ1.out; omega⟩, ⟨by (with_reducible repeat (first | apply Kd.S_alloc | apply Kd.S_drewN | apply Kd.S_drew)); exact HO155.out⟩, ⟨by repeat (first | (with_reducible first | exact HB.out | apply below_alloc | apply pw_below_drewN | apply below_drew1) | exact HB.out)⟩⟩
         ·rw [if_neg c10] at H
          exact absurd H (by simp)
        ·rw [if_neg c7] at H
         have c7b0 : decide (0 < (Go.bits .and .i64 (rd l0 x4_1) 1023)) = false := decide_eq_false c7
         clear c7
         have H' := Aside0.mk H
         clear H
         have p143 : 0 ≤ (x4_1 : Int) := of_decide_eq_true (by first | (with_reducible assumption) | assumption)
         have q143 : x4_1 < (l0.length : Int) := of_decide_eq_true (by first | (with_reducible assumption) | assumption)
         obtain ⟨ad143, e143, hx143_0⟩ := Kd.at_int HR0.out x4_1 p143 q143
         cases e143
         replace hx143_0 := (HB.out.cell (World.block_lt_of_cell? w _ hx143_0)).trans hx143_0
         replace p143 := eq_true p143
         replace q143 := eq_true q143
         go_wp2
         go_roundg kj1
         case measure => have := HK1.out; have := HJ1.out; omega
         case rel => exact ⟨(x3_1), (wrap64 (x4_1 + 1)), (by first | rfl | (simp; done) | (simp [*]; done)), H', ⟨by have := HK1.out; have := HJ1.out; omega⟩, ⟨by (with_reducible repeat (first | apply Kd.S_alloc | apply Kd.S_drewN | apply Kd.S_drew)); exact HO_3.out⟩, ⟨by repeat (first | (with_reducible first | exact HB.out | apply below_alloc | apply pw_below_drewN | apply below_drew1) | exact HB.out)⟩⟩
       ·rw [if_neg c6] at H
        exact absurd H (by simp)
      ·rw [if_neg c5] at H
       exact absurd H (by simp)
     ·replace c4 := Bool.eq_false_iff.mpr c4
      subst c4
      have H1 : (some x3_1) = some r := by rw [if_neg (show ¬ (false = true) by decide)] at H; exact H
      clear H
      have H := H1
      clear H1
      obtain rfl := Option.some.inj H
      go_wp2
      go_ret
      exact ⟨_, by first | rfl | (simp [errW_none, errW_some] <;> rfl) | (simp [*, errW_none, errW_some] <;> rfl), by (with_reducible repeat (first | apply Kd.S_alloc | apply Kd.S_drewN | apply Kd.S_drew)); exact HO_3.out, by repeat (first | (with_reducible first | exact HB.out | apply below_alloc | apply pw_below_drewN | apply below_drew1) | exact HB.out)⟩
end Go.Proofs.Ytjhnpaenhdbhpaa.P
namespace Go.Proofs.Ytjhnpaenhdbhpaa.P
open Go.RowKit Go.Proofs.YtjhnpaenhdbhpaaW.PrintWords Go.Proofs.YtjhnpaenhdbhpaaW.PrintLast Go.Proofs.YtjhnpaenhdbhpaaW.PrintMore
attribute [local go_sem] max2_int min2_int max_two min_two max_three min_three max_four min_four
set_option linter.unusedVariables false
set_option linter.unusedSimpArgs false
theorem eqA38 (d : Nat) (w : World) (x0 y0 : Int) (x1 y1 : Int) (x2 y2 : ByteArray) :
  (Op.equalIn (d + 2) 38 (.agg #[.int .i64 x0, .int .i64 x1, .string x2]) (.agg #[.int .i64 y0, .int .i64 y1, .string y2])).run Try.prog w = .ok (x0 == y0 && (x1 == y1 && (x2.toList == y2.toList))) w := by
 refine eqA_of Try.underlying38 (by kernel_rfl) ?_
 refine eqf_cons (by rfl) (by go_simp; rfl) (by go_simp; rfl) (by go_simp) ?_
 refine eqf_cons (by rfl) (by go_simp; rfl) (by go_simp; rfl) (by go_simp) ?_
 exact eqf_last (by rfl) (by go_simp; rfl) (by go_simp; rfl) (by go_simp)
end Go.Proofs.Ytjhnpaenhdbhpaa.P
namespace Go.Proofs.Ytjhnpaenhdbhpaa.P
open Go.RowKit Go.Proofs.YtjhnpaenhdbhpaaW.PrintWords Go.Proofs.YtjhnpaenhdbhpaaW.PrintLast Go.Proofs.YtjhnpaenhdbhpaaW.PrintMore
attribute [local go_sem] max2_int min2_int max_two min_two max_three min_three max_four min_four
set_option linter.unusedVariables false
set_option linter.unusedSimpArgs false
attribute [local go_sem high] eqA38
def erasurelaw35_awake.f (k : Nat)  : Option (Bool) := (erasurelaw35_Groups.f k (([4, 5, 9, 10] : List Int))).bind fun t159 => ((release_Publish.f k (⟨#[]⟩ : ByteArray) (⟨#[]⟩ : ByteArray) 5 1 t159).bind fun t162 => (if (t162.length : Int) = 3 then (if 0 < (t162.length : Int) then (if ((rd_T43 t162 0).f1) = 5 then (if 1 < (t162.length : Int) then (if ((rd_T43 t162 1).f1) = 5 then (if 2 < (t162.length : Int) then (if ((rd_T43 t162 2).f1) = 10 then (if (((rd_T43 t162 0).f0).length : Int) = 1 then (if 0 < (((rd_T43 t162 0).f0).length : Int) then ((erasureref01_Int.f 1).bind fun bt171 => (some (((rd_T38 ((rd_T43 t162 0).f0) 0).f0) == bt171.1 && (((rd_T38 ((rd_T43 t162 0).f0) 0).f1) == bt171.2.1 && ((((rd_T38 ((rd_T43 t162 0).f0) 0).f2).toList) == bt171.2.2.toList))))) else (none)) else (some false)) else (some false)) else (none)) else (some false)) else (none)) else (some false)) else (none)) else (some false)))
theorem erasurelaw35_awake.mono : ∀ k, LeO (erasurelaw35_awake.f k ) (erasurelaw35_awake.f (k + 1) ) := by
 intro  k
 unfold erasurelaw35_awake.f
 repeat' first
   | (with_reducible exact erasurelaw35_Groups.mono _ _)
   | (with_reducible exact release_Publish.mono _ _ _ _ _ _)
   | (with_reducible exact LeO.refl _)
   | (with_reducible exact LeO.none _)
   | (with_reducible refine LeO.ite ?_ ?_)
   | (with_reducible refine LeO.bind ?_ (fun _ => ?_))
   | exact erasurelaw35_Groups.mono _ _
   | exact release_Publish.mono _ _ _ _ _ _
   | exact LeO.none _
   | refine LeO.ite ?_ ?_
   | refine LeO.bind ?_ (fun _ => ?_)
def erasurelaw35_awake.T2 : Bool × List (List Nat × List Nat) := (true, [([], []), ([0], [0]), ([1], [1]), ([2], [2]), ([3], [3]), ([4, 3], [3, 4]), ([5, 3], [3, 5]), ([6, 3], [3, 6]), ([7, 3], [3, 7]), ([3, 8], [3, 8]), ([9, 3], [9]), ([10], [10]), ([11, 10], [10, 11]), ([12, 10], [10, 12]), ([13, 10], [10, 13]), ([14, 10], [10, 14]), ([10, 15], [10, 15]), ([16, 10], [16]), ([17], [17]), ([18, 17], [17, 18]), ([19, 17], [17, 19]), ([20, 17], [17, 20]), ([21, 17], [17, 21]), ([17, 22], [17, 22]), ([23, 17], [23]), ([24], [24]), ([25, 24], [24, 25]), ([26, 24], [24, 26]), ([27, 24], [24, 27]), ([28, 24], [24, 28]), ([29, 24], [24, 29]), ([24, 30], [24, 30]), ([31, 24], [31]), ([32], [32]), ([33, 32], [32, 33]), ([34, 32], [32, 34]), ([35, 32], [32, 35]), ([36, 32], [32, 36]), ([37, 32], [32, 37]), ([32, 32], [32]), ([38, 39, 32], [32, 38, 39]), ([32, 40], [32, 40]), ([41, 39, 0, 1, 2, 3, 4, 5, 6, 7, 8, 9, 10, 11, 12, 13, 14, 15, 16, 17, 18, 19, 20, 21, 22, 23, 24, 25, 26, 27, 28, 29, 30, 31, 32, 33, 34, 35, 36, 37, 38, 39, 40, 41], [41])])
def erasurelaw35_awake.B2 : List Nat := [0, 1, 3, 7, 15, 31, 63, 127, 255, 511, 1023, 2047, 4095, 8191, 16383, 32767, 65535, 131071, 262143, 524287, 1048575, 2097151, 4194303, 8388607, 16777215, 33554431, 67108863, 134217727, 268435455, 536870911, 1073741823, 2147483647, 4294967295, 8589934591, 17179869183, 34359738367, 68719476735, 137438953471, 274877906943, 8589934591, 1099511627775, 2199023255551, 4398046511103]
theorem erasurelaw35_awake.tab2 : rtab .any (opsOf Try.f12 2) = erasurelaw35_awake.T2 := by kernel_rfl
theorem erasurelaw35_awake.bits2 : waitsOk erasurelaw35_awake.T2.2 erasurelaw35_awake.B2 = true := by kernel_rfl
set_option maxHeartbeats 8000000 in
set_option maxRecDepth 100000 in
theorem erasurelaw35_awake.calls (k : Nat)  (r : Bool) (w : World) (h : erasurelaw35_awake.f k  = some r) :
  Calls Try.prog 12 #[] w fun e w' => e = .returned (.bool r) ∧ Below w.heap.size w w' := by
 have hu23 := Try.underlying23
 have hu38 := Try.underlying38
 have HB := Aside0.mk (Below.refl w.heap.size w)
 have H : ((erasurelaw35_Groups.f k (([4, 5, 9, 10] : List Int))).bind fun t159 => ((release_Publish.f k (⟨#[]⟩ : ByteArray) (⟨#[]⟩ : ByteArray) 5 1 t159).bind fun t162 => (if (t162.length : Int) = 3 then (if 0 < (t162.length : Int) then (if ((rd_T43 t162 0).f1) = 5 then (if 1 < (t162.length : Int) then (if ((rd_T43 t162 1).f1) = 5 then (if 2 < (t162.length : Int) then (if ((rd_T43 t162 2).f1) = 10 then (if (((rd_T43 t162 0).f0).length : Int) = 1 then (if 0 < (((rd_T43 t162 0).f0).length : Int) then ((erasureref01_Int.f 1).bind fun bt171 => (some (((rd_T38 ((rd_T43 t162 0).f0) 0).f0) == bt171.1 && (((rd_T38 ((rd_T43 t162 0).f0) 0).f1) == bt171.2.1 && ((((rd_T38 ((rd_T43 t162 0).f0) 0).f2).toList) == bt171.2.2.toList))))) else (none)) else (some false)) else (some false)) else (none)) else (some false)) else (none)) else (some false)) else (none)) else (some false)))) = some r := h
 clear h
 obtain ⟨y156, hy156⟩ : ∃ y_ : List Int, y_ = (([4, 5, 9, 10] : List Int)) := ⟨_, rfl⟩
 replace H : ((erasurelaw35_Groups.f k y156).bind fun t159 => ((release_Publish.f k (⟨#[]⟩ : ByteArray) (⟨#[]⟩ : ByteArray) 5 1 t159).bind fun t162 => (if (t162.length : Int) = 3 then (if 0 < (t162.length : Int) then (if ((rd_T43 t162 0).f1) = 5 then (if 1 < (t162.length : Int) then (if ((rd_T43 t162 1).f1) = 5 then (if 2 < (t162.length : Int) then (if ((rd_T43 t162 2).f1) = 10 then (if (((rd_T43 t162 0).f0).length : Int) = 1 then (if 0 < (((rd_T43 t162 0).f0).length : Int) then ((erasureref01_Int.f 1).bind fun bt171 => (some (((rd_T38 ((rd_T43 t162 0).f0) 0).f0) == bt171.1 && (((rd_T38 ((rd_T43 t162 0).f0) 0).f1) == bt171.2.1 && ((((rd_T38 ((rd_T43 t162 0).f0) 0).f2).toList) == bt171.2.2.toList))))) else (none)) else (some false)) else (some false)) else (none)) else (some false)) else (none)) else (some false)) else (none)) else (some false)))) = some r := by first | (rw [hy156]; with_reducible exact H) | (have H2_ := (Option.bind_some _ _).symm.trans H; rw [hy156]; with_reducible exact H2_) | (have H2_ := (Option.bind_some _ _).symm.trans H; with_reducible exact H2_) | with_reducible exact H | (rw [hy156]; exact H) | exact H
 have Ny156 := Aside0.mk hy156
 clear hy156
 replace H := Option.bind_eq_some_iff.mp H
 obtain ⟨t159, A10, H⟩ := H
 replace H : ((release_Publish.f k (⟨#[]⟩ : ByteArray) (⟨#[]⟩ : ByteArray) 5 1 t159).bind fun t162 => (if (t162.length : Int) = 3 then (if 0 < (t162.length : Int) then (if ((rd_T43 t162 0).f1) = 5 then (if 1 < (t162.length : Int) then (if ((rd_T43 t162 1).f1) = 5 then (if 2 < (t162.length : Int) then (if ((rd_T43 t162 2).f1) = 10 then (if (((rd_T43 t162 0).f0).length : Int) = 1 then (if 0 < (((rd_T43 t162 0).f0).length : Int) then ((erasureref01_Int.f 1).bind fun bt171 => (some (((rd_T38 ((rd_T43 t162 0).f0) 0).f0) == bt171.1 && (((rd_T38 ((rd_T43 t162 0).f0) 0).f1) == bt171.2.1 && ((((rd_T38 ((rd_T43 t162 0).f0) 0).f2).toList) == bt171.2.2.toList))))) else (none)) else (some false)) else (some false)) else (none)) else (some false)) else (none)) else (some false)) else (none)) else (some false))) = some r := H
 have A1 := Aside0.mk A10
 clear A10
 replace H := Option.bind_eq_some_iff.mp H
 obtain ⟨t162, A20, H⟩ := H
 replace H : (if (t162.length : Int) = 3 then (if 0 < (t162.length : Int) then (if ((rd_T43 t162 0).f1) = 5 then (if 1 < (t162.length : Int) then (if ((rd_T43 t162 1).f1) = 5 then (if 2 < (t162.length : Int) then (if ((rd_T43 t162 2).f1) = 10 then (if (((rd_T43 t162 0).f0).length : Int) = 1 then (if 0 < (((rd_T43 t162 0).f0).length : Int) then ((erasureref01_Int.f 1).bind fun bt171 => (some (((rd_T38 ((rd_T43 t162 0).f0) 0).f0) == bt171.1 && (((rd_T38 ((rd_T43 t162 0).f0) 0).f1) == bt171.2.1 && ((((rd_T38 ((rd_T43 t162 0).f0) 0).f2).toList) == bt171.2.2.toList))))) else (none)) else (some false)) else (some false)) else (none)) else (some false)) else (none)) else (some false)) else (none)) else (some false)) = some r := H
 have A2 := Aside0.mk A20
 clear A20
 by_cases c3 : (t162.length : Int) = 3
 ·rw [if_pos c3] at H
  have c3b0 : ((t162.length : Int) == 3) = true := beq_iff_eq.mpr c3
  have c3b1 : ((t162.length : Int) != 3) = false := bne_eq_false_iff_eq.mpr c3
  clear c3
  by_cases c4 : 0 < (t162.length : Int)
  ·rw [if_pos c4] at H
   have c4b0 : decide (0 < (t162.length : Int)) = true := decide_eq_true c4
   have c4b1 : decide (0 < t162.length) = true := decide_eq_true (by omega)
   clear c4
   by_cases c5 : ((rd_T43 t162 0).f1) = 5
   ·rw [if_pos c5] at H
    have c5b0 : (((rd_T43 t162 0).f1) == 5) = true := beq_iff_eq.mpr c5
    have c5b1 : (((rd_T43 t162 0).f1) != 5) = false := bne_eq_false_iff_eq.mpr c5
    clear c5
    by_cases c6 : 1 < (t162.length : Int)
    ·rw [if_pos c6] at H
     have c6b0 : decide (1 < (t162.length : Int)) = true := decide_eq_true c6
     have c6b1 : decide (1 < t162.length) = true := decide_eq_true (by omega)
     clear c6
     by_cases c7 : ((rd_T43 t162 1).f1) = 5
     ·rw [if_pos c7] at H
      have c7b0 : (((rd_T43 t162 1).f1) == 5) = true := beq_iff_eq.mpr c7
      have c7b1 : (((rd_T43 t162 1).f1) != 5) = false := bne_eq_false_iff_eq.mpr c7
      clear c7
      by_cases c8 : 2 < (t162.length : Int)
      ·rw [if_pos c8] at H
       have c8b0 : decide (2 < (t162.length : Int)) = true := decide_eq_true c8
       have c8b1 : decide (2 < t162.length) = true := decide_eq_true (by omega)
       clear c8
       by_cases c9 : ((rd_T43 t162 2).f1) = 10
       ·rw [if_pos c9] at H
        have c9b0 : (((rd_T43 t162 2).f1) == 10) = true := beq_iff_eq.mpr c9
        have c9b1 : (((rd_T43 t162 2).f1) != 10) = false := bne_eq_false_iff_eq.mpr c9
        clear c9
        by_cases c10 : (((rd_T43 t162 0).f0).length : Int) = 1
        ·rw [if_pos c10] at H
         have c10b0 : ((((rd_T43 t162 0).f0).length : Int) == 1) = true := beq_iff_eq.mpr c10
         have c10b1 : ((((rd_T43 t162 0).f0).length : Int) != 1) = false := bne_eq_false_iff_eq.mpr c10
         clear c10
         by_cases c11 : 0 < (((rd_T43 t162 0).f0).length : Int)
         ·rw [if_pos c11] at H
          have c11b0 : decide (0 < (((rd_T43 t162 0).f0).length : Int)) = true := decide_eq_true c11
          have c11b1 : decide (0 < ((rd_T43 t162 0).f0).length) = true := decide_eq_true (by omega)
          clear c11
          replace H := Option.bind_eq_some_iff.mp H
          obtain ⟨⟨t171, t172, t173⟩, A120, H⟩ := H
          replace H : (some (((rd_T38 ((rd_T43 t162 0).f0) 0).f0) == t171 && (((rd_T38 ((rd_T43 t162 0).f0) 0).f1) == t172 && ((((rd_T38 ((rd_T43 t162 0).f0) 0).f2).toList) == t173.toList)))) = some r := H
          have A12 := Aside0.mk A120
          clear A120
          obtain rfl := Option.some.inj H
          go_enter Try.func12, Try.ntmps12
          try go_wp2_with (first | ((with_reducible refine gate_dst (N := 3) rfl ?_); (try (refine gate_guard (by rfl) ?_; dsimp only)); refine Kd.R_lit (Kd.int .i64) _ 3 ?hg (N := 3) ?hd (xs := ([4, 5, 9, 10] : List Int)) (inner := [.int .i64 4, .int .i64 5, .int .i64 9, .int .i64 10]) (ok := fun _ => True) (okp := fun _ => True) ?hr ?hp (fun _ hk => hk) trivial (Below.refl _ _) (Nat.le_refl _) (by simp) ?_; (case hd => rfl); (case hg => rfl); (case hr => first | (go_simp; done) | (go_simp; rfl)); (case hp => exact (Reps.one (show Kd.M (Kd.int .i64) _ _ _ 4 [.int .i64 4] from rfl) (Reps.one (show Kd.M (Kd.int .i64) _ _ _ 5 [.int .i64 5] from rfl) (Reps.one (show Kd.M (Kd.int .i64) _ _ _ 9 [.int .i64 9] from rfl) (Reps.one (show Kd.M (Kd.int .i64) _ _ _ 10 [.int .i64 10] from rfl) (Reps.none _ _)))))); intro v157 w13 ho14 hb hg_ hnew_; clear hg_ hnew_; (first | rw [← Ny156.out] at ho14 | (simp only [Int.reduceToNat] at ho14; rw [← Ny156.out] at ho14)); have n0_ := Aside0.mk (Kd.R_lower ho14 (below_size (by repeat (first | (with_reducible first | exact HB.out | apply below_alloc | apply pw_below_drewN | apply below_drew1) | exact HB.out)))); have n1_ := Aside0.mk (below_step (by repeat (first | (with_reducible first | exact HB.out | apply below_alloc | apply pw_below_drewN | apply below_drew1) | exact HB.out)) hb); clear HB; have HO158 := n0_; have HB := n1_; clear n0_ n1_; clear hb ho14; obtain ⟨Ao15, co15, eo15⟩ := Kd.R_slice HO158.out; subst eo15) | ((with_reducible refine gate_callee (f := 18) rfl ?_); refine goesL_ (some 4) rfl rfl Try.func18 (by kernel_rfl) rfl #[.slice Ao15 y156.length co15] rfl (by (try simp only [List.map_toArray, List.map_cons, List.map_nil]); first | done | rfl | (simp only [List.length_drop, List.length_take]; rfl)) ?_; (with_reducible refine (erasurelaw35_Groups.calls k _ _ y156 t159 _ ?side1 ?side2 A1.out).mono ?_); (case side1 => repeat (first | exact (Kd.R_reads' HO158.out).2.2 | (with_reducible refine Kd.C_alloc ?_ _) | (with_reducible refine Kd.C_drewN ?_ _) | (with_reducible refine Kd.C_drew ?_))); (case side2 => exact (Kd.R_reads' HO158.out).2.1); rintro e w16 ⟨v160, rfl, ho0, hb⟩; refine ⟨_, rfl, ?_⟩; have n0_ := Aside0.mk (Kd.R_below (by (with_reducible repeat (first | apply Kd.R_alloc | apply Kd.R_drewN | apply Kd.R_drew)); exact HO158.out) hb); have n1_ := Aside0.mk (Kd.S_lower ho0 (below_size (by repeat (first | (with_reducible first | exact HB.out | apply below_alloc | apply pw_below_drewN | apply below_drew1) | exact HB.out)))); have n2_ := Aside0.mk (below_step (by repeat (first | (with_reducible first | exact HB.out | apply below_alloc | apply pw_below_drewN | apply below_drew1) | exact HB.out)) hb); clear HO158; clear HB; have HO158 := n0_; have HO161 := n1_; have HB := n2_; clear n0_ n1_ n2_; (try clear hb); (try clear hb2); (try clear hk); (try clear hi); (try clear ho0); obtain ⟨Ao17, co17, eo17⟩ := Kd.S_slice HO161.out; subst eo17) | ((with_reducible refine gate_callee (f := 15) rfl ?_); refine goesL_ (some 5) rfl rfl Try.func15 (by kernel_rfl) rfl #[.agg #[.string (⟨#[]⟩ : ByteArray), .string (⟨#[]⟩ : ByteArray), .int .i64 5], .int .i64 1, .slice Ao17 t159.length co17] rfl (by (try simp only [List.map_toArray, List.map_cons, List.map_nil]); first | done | rfl | (simp only [List.length_drop, List.length_take]; rfl)) ?_; (with_reducible refine (release_Publish.calls k (⟨#[]⟩ : ByteArray) (⟨#[]⟩ : ByteArray) 5 1 _ _ t159 t162 _ ?side1 ?side2 A2.out).mono ?_); (case side1 => repeat (first | exact (Kd.S_reads' HO161.out).2.2 | (with_reducible refine Kd.C_alloc ?_ _) | (with_reducible refine Kd.C_drewN ?_ _) | (with_reducible refine Kd.C_drew ?_))); (case side2 => exact (Kd.S_reads' HO161.out).2.1); rintro e w18 ⟨v163, rfl, ho0, hb⟩; refine ⟨_, rfl, ?_⟩; have n0_ := Aside0.mk (Kd.R_below (by (with_reducible repeat (first | apply Kd.R_alloc | apply Kd.R_drewN | apply Kd.R_drew)); exact HO158.out) hb); have n1_ := Aside0.mk (Kd.S_below (by (with_reducible repeat (first | apply Kd.S_alloc | apply Kd.S_drewN | apply Kd.S_drew)); exact HO161.out) hb); have n2_ := Aside0.mk (Kd.V_lower (Kd.V_mono (ok' := fun k_ => some k_ ≠ (.slice Ao15 y156.length co15 : Value).ownBlock ∧ some k_ ≠ (.slice Ao17 t159.length co17 : Value).ownBlock) ho0 (fun k_ hk_ => ⟨(Kd.fresh' (Kd.R_lt (by (with_reducible repeat (first | apply Kd.R_alloc | apply Kd.R_drewN | apply Kd.R_drew)); exact HO158.out)) k_ hk_), (Kd.fresh' (Kd.S_lt (by (with_reducible repeat (first | apply Kd.S_alloc | apply Kd.S_drewN | apply Kd.S_drew)); exact HO161.out)) k_ hk_)⟩)) (below_size (by repeat (first | (with_reducible first | exact HB.out | apply below_alloc | apply pw_below_drewN | apply below_drew1) | exact HB.out)))); have n3_ := Aside0.mk (below_step (by repeat (first | (with_reducible first | exact HB.out | apply below_alloc | apply pw_below_drewN | apply below_drew1) | exact HB.out)) hb); clear HO158; clear HO161; clear HB; have HO158 := n0_; have HO161 := n1_; have HO164 := n2_; have HB := n3_; clear n0_ n1_ n2_ n3_; (try clear hb); (try clear hb2); (try clear hk); (try clear hi); (try clear ho0)))
          have n0_ := Aside0.mk (Kd.R_drew HO158.out)
          have n1_ := Aside0.mk (Kd.S_drew HO161.out)
          have n2_ := Aside0.mk (Kd.V_drew HO164.out)
          have n3_ := Aside0.mk (below_drew1 HB.out)
          clear HO158
          clear HO161
          clear HO164
          clear HB
          have HO158 := n0_
          have HO161 := n1_
          have HO164 := n2_
          have HB := n3_
          clear n0_ n1_ n2_ n3_
          obtain ⟨Ao20, co20, eo20⟩ := Kd.V_slice HO164.out
          (first | subst eo20 | (injection eo20 with f1_ f2_ f3_; have f4_ := f1_.symm; have f5_ := f3_.symm; clear f1_ f2_ f3_; subst f4_; subst f5_))
          have p165 : 0 ≤ (0 : Int) := (by omega)
          have q165 : 0 < (t162.length : Int) := of_decide_eq_true (by first | (with_reducible assumption) | assumption)
          obtain ⟨ad165, A165_0, c165_0, e165, hx165_0, hx165_1, hl165_0, hi165_0⟩ := at_T43 (Kd.V_reads' HO164.out).2.2 0 p165 q165
          cases e165
          obtain ⟨ce165, hce165, hMe165, hcc165⟩ := Kd.V_get HO164.out z43 0 p165 (by first | exact q165 | exact of_decide_eq_true (by first | (with_reducible assumption) | assumption) | (have e_ := (Kd.V_reads' HO164.out).1; omega))
          obtain ⟨ua165_0, uc165_0, rfl, ul165_0, ge165_0⟩ := k43_openF hMe165
          have hv165_0 := hcc165 0 _ rfl
          rw [Nat.add_zero] at hv165_0
          replace hv165_0 := Option.some.inj (hv165_0.symm.trans hx165_0)
          injection hv165_0 with hva_ hvn_ hvc_
          rw [hva_] at ge165_0
          rw [hvc_] at ul165_0
          have HL165_0 := Aside0.mk (show Kd.V k38 38 _ w.heap.size _ _ ((rd_T43 t162 0).f0) from Kd.V_mk ul165_0 ge165_0)
          clear hva_ hvn_ hvc_ ge165_0 ul165_0
          clear hcc165 hce165
          have qi165 : (0 < t162.length) = True := eq_true (by omega)
          (try rw [show ((0 : Int)).toNat = 0 from rfl] at hx165_0)
          (try rw [show 0 * 2 = 0 from rfl] at hx165_0)
          (try rw [Addr.add_zero'] at hx165_0)
          (try rw [show ((0 : Int)).toNat = 0 from rfl] at hx165_1)
          (try rw [show 0 * 2 = 0 from rfl] at hx165_1)
          (try rw [Addr.add_zero'] at hx165_1)
          have HR165_0 := Aside0.mk hi165_0
          have HC165_0 := Aside0.mk hl165_0
          clear hi165_0 hl165_0
          replace p165 := eq_true p165
          replace q165 := eq_true q165
          have p166 : 0 ≤ (1 : Int) := (by omega)
          have q166 : 1 < (t162.length : Int) := of_decide_eq_true (by first | (with_reducible assumption) | assumption)
          obtain ⟨ad166, A166_0, c166_0, e166, hx166_0, hx166_1, hl166_0, hi166_0⟩ := at_T43 (Kd.V_reads' HO164.out).2.2 1 p166 q166
          obtain rfl : ad165 = ad166 := (by injection e166)
          obtain ⟨ce166, hce166, hMe166, hcc166⟩ := Kd.V_get HO164.out z43 1 p166 (by first | exact q166 | exact of_decide_eq_true (by first | (with_reducible assumption) | assumption) | (have e_ := (Kd.V_reads' HO164.out).1; omega))
          obtain ⟨ua166_0, uc166_0, rfl, ul166_0, ge166_0⟩ := k43_openF hMe166
          have hv166_0 := hcc166 0 _ rfl
          rw [Nat.add_zero] at hv166_0
          replace hv166_0 := Option.some.inj (hv166_0.symm.trans hx166_0)
          injection hv166_0 with hva_ hvn_ hvc_
          rw [hva_] at ge166_0
          rw [hvc_] at ul166_0
          have HL166_0 := Aside0.mk (show Kd.V k38 38 _ w.heap.size _ _ ((rd_T43 t162 1).f0) from Kd.V_mk ul166_0 ge166_0)
          clear hva_ hvn_ hvc_ ge166_0 ul166_0
          clear hcc166 hce166
          (try simp only [show (1 : Int).toNat = 1 from rfl, Nat.reduceMul, Nat.reduceEqDiff, Go.Addr.add, ↓reduceIte] at hx166_0)
          (try simp only [show (1 : Int).toNat = 1 from rfl, Nat.reduceMul, Nat.reduceEqDiff, Go.Addr.add, ↓reduceIte] at hx166_1)
          have qi166 : (1 < t162.length) = True := eq_true (by omega)
          (try rw [show ((1 : Int)).toNat = 1 from rfl] at hx166_0)
          (try rw [show 1 * 2 = 2 from rfl] at hx166_0)
          (try rw [show ((1 : Int)).toNat = 1 from rfl] at hx166_1)
          (try rw [show 1 * 2 = 2 from rfl] at hx166_1)
          have HR166_0 := Aside0.mk hi166_0
          have HC166_0 := Aside0.mk hl166_0
          clear hi166_0 hl166_0
          replace p166 := eq_true p166
          replace q166 := eq_true q166
          have p167 : 0 ≤ (2 : Int) := (by omega)
          have q167 : 2 < (t162.length : Int) := of_decide_eq_true (by first | (with_reducible assumption) | assumption)
          obtain ⟨ad167, A167_0, c167_0, e167, hx167_0, hx167_1, hl167_0, hi167_0⟩ := at_T43 (Kd.V_reads' HO164.out).2.2 2 p167 q167
          obtain rfl : ad165 = ad167 := (by injection e167)
          obtain ⟨ce167, hce167, hMe167, hcc167⟩ := Kd.V_get HO164.out z43 2 p167 (by first | exact q167 | exact of_decide_eq_true (by first | (with_reducible assumption) | assumption) | (have e_ := (Kd.V_reads' HO164.out).1; omega))
          obtain ⟨ua167_0, uc167_0, rfl, ul167_0, ge167_0⟩ := k43_openF hMe167
          have hv167_0 := hcc167 0 _ rfl
          rw [Nat.add_zero] at hv167_0
          replace hv167_0 := Option.some.inj (hv167_0.symm.trans hx167_0)
          injection hv167_0 with hva_ hvn_ hvc_
          rw [hva_] at ge167_0
          rw [hvc_] at ul167_0
          have HL167_0 := Aside0.mk (show Kd.V k38 38 _ w.heap.size _ _ ((rd_T43 t162 2).f0) from Kd.V_mk ul167_0 ge167_0)
          clear hva_ hvn_ hvc_ ge167_0 ul167_0
          clear hcc167 hce167
          (try simp only [show (2 : Int).toNat = 2 from rfl, Nat.reduceMul, Nat.reduceEqDiff, Go.Addr.add, ↓reduceIte] at hx167_0)
          (try simp only [show (2 : Int).toNat = 2 from rfl, Nat.reduceMul, Nat.reduceEqDiff, Go.Addr.add, ↓reduceIte] at hx167_1)
          have qi167 : (2 < t162.length) = True := eq_true (by omega)
          (try rw [show ((2 : Int)).toNat = 2 from rfl] at hx167_0)
          (try rw [show 2 * 2 = 4 from rfl] at hx167_0)
          (try rw [show ((2 : Int)).toNat = 2 from rfl] at hx167_1)
          (try rw [show 2 * 2 = 4 from rfl] at hx167_1)
          have HR167_0 := Aside0.mk hi167_0
          have HC167_0 := Aside0.mk hl167_0
          clear hi167_0 hl167_0
          replace p167 := eq_true p167
          replace q167 := eq_true q167
          have p168 : 0 ≤ (0 : Int) := (by omega)
          have q168 : 0 < (t162.length : Int) := of_decide_eq_true (by first | (with_reducible assumption) | assumption)
          obtain ⟨ad168, A168_0, c168_0, e168, hx168_0, hx168_1, hl168_0, hi168_0⟩ := at_T43 (Kd.V_reads' HO164.out).2.2 0 p168 q168
          obtain rfl : ad165 = ad168 := (by injection e168)
          obtain ⟨ce168, hce168, hMe168, hcc168⟩ := Kd.V_get HO164.out z43 0 p168 (by first | exact q168 | exact of_decide_eq_true (by first | (with_reducible assumption) | assumption) | (have e_ := (Kd.V_reads' HO164.out).1; omega))
          obtain ⟨ua168_0, uc168_0, rfl, ul168_0, ge168_0⟩ := k43_openF hMe168
          have hv168_0 := hcc168 0 _ rfl
          rw [Nat.add_zero] at hv168_0
          replace hv168_0 := Option.some.inj (hv168_0.symm.trans hx168_0)
          injection hv168_0 with hva_ hvn_ hvc_
          rw [hva_] at ge168_0
          rw [hvc_] at ul168_0
          have HL168_0 := Aside0.mk (show Kd.V k38 38 _ w.heap.size _ _ ((rd_T43 t162 0).f0) from Kd.V_mk ul168_0 ge168_0)
          clear hva_ hvn_ hvc_ ge168_0 ul168_0
          clear hcc168 hce168
          have qi168 : (0 < t162.length) = True := eq_true (by omega)
          (try rw [show ((0 : Int)).toNat = 0 from rfl] at hx168_0)
          (try rw [show 0 * 2 = 0 from rfl] at hx168_0)
          (try rw [Addr.add_zero'] at hx168_0)
          (try rw [show ((0 : Int)).toNat = 0 from rfl] at hx168_1)
          (try rw [show 0 * 2 = 0 from rfl] at hx168_1)
          (try rw [Addr.add_zero'] at hx168_1)
          have HR168_0 := Aside0.mk hi168_0
          have HC168_0 := Aside0.mk hl168_0
          clear hi168_0 hl168_0
          replace p168 := eq_true p168
          replace q168 := eq_true q168
          have ea_ := Option.some.inj (hx165_0.symm.trans hx168_0)
          injection ea_ with ea_ en_ ec_
          subst ea_
          subst ec_
          clear en_
          have p169 : 0 ≤ (0 : Int) := (by omega)
          have q169 : 0 < (t162.length : Int) := of_decide_eq_true (by first | (with_reducible assumption) | assumption)
          obtain ⟨ad169, A169_0, c169_0, e169, hx169_0, hx169_1, hl169_0, hi169_0⟩ := at_T43 (Kd.V_reads' HO164.out).2.2 0 p169 q169
          obtain rfl : ad165 = ad169 := (by injection e169)
          obtain ⟨ce169, hce169, hMe169, hcc169⟩ := Kd.V_get HO164.out z43 0 p169 (by first | exact q169 | exact of_decide_eq_true (by first | (with_reducible assumption) | assumption) | (have e_ := (Kd.V_reads' HO164.out).1; omega))
          obtain ⟨ua169_0, uc169_0, rfl, ul169_0, ge169_0⟩ := k43_openF hMe169
          have hv169_0 := hcc169 0 _ rfl
          rw [Nat.add_zero] at hv169_0
          replace hv169_0 := Option.some.inj (hv169_0.symm.trans hx169_0)
          injection hv169_0 with hva_ hvn_ hvc_
          rw [hva_] at ge169_0
          rw [hvc_] at ul169_0
          have HL169_0 := Aside0.mk (show Kd.V k38 38 _ w.heap.size _ _ ((rd_T43 t162 0).f0) from Kd.V_mk ul169_0 ge169_0)
          clear hva_ hvn_ hvc_ ge169_0 ul169_0
          clear hcc169 hce169
          have qi169 : (0 < t162.length) = True := eq_true (by omega)
          (try rw [show ((0 : Int)).toNat = 0 from rfl] at hx169_0)
          (try rw [show 0 * 2 = 0 from rfl] at hx169_0)
          (try rw [Addr.add_zero'] at hx169_0)
          (try rw [show ((0 : Int)).toNat = 0 from rfl] at hx169_1)
          (try rw [show 0 * 2 = 0 from rfl] at hx169_1)
          (try rw [Addr.add_zero'] at hx169_1)
          have HR169_0 := Aside0.mk hi169_0
          have HC169_0 := Aside0.mk hl169_0
          clear hi169_0 hl169_0
          replace p169 := eq_true p169
          replace q169 := eq_true q169
          have ea_ := Option.some.inj (hx165_0.symm.trans hx169_0)
          injection ea_ with ea_ en_ ec_
          subst ea_
          subst ec_
          clear en_
          have p170 : 0 ≤ (0 : Int) := (by omega)
          have q170 : 0 < (((rd_T43 t162 0).f0).length : Int) := of_decide_eq_true (by first | (with_reducible assumption) | assumption)
          obtain ⟨ad170, e170, hx170_0, hx170_1, hx170_2⟩ := at_T38 (by repeat (first | (with_reducible exact HR169_0.out) | (with_reducible refine Kd.C_alloc ?_ _) | (with_reducible refine Kd.C_drewN ?_ _) | (with_reducible refine Kd.C_drew ?_) | exact HR169_0.out)) 0 p170 q170
          cases e170
          have qi170 : (0 < ((rd_T43 t162 0).f0).length) = True := eq_true (by omega)
          (try rw [show ((0 : Int)).toNat = 0 from rfl] at hx170_0)
          (try rw [show 0 * 3 = 0 from rfl] at hx170_0)
          (try rw [Addr.add_zero'] at hx170_0)
          (try rw [show ((0 : Int)).toNat = 0 from rfl] at hx170_1)
          (try rw [show 0 * 3 = 0 from rfl] at hx170_1)
          (try rw [Addr.add_zero'] at hx170_1)
          (try rw [show ((0 : Int)).toNat = 0 from rfl] at hx170_2)
          (try rw [show 0 * 3 = 0 from rfl] at hx170_2)
          (try rw [Addr.add_zero'] at hx170_2)
          replace p170 := eq_true p170
          replace q170 := eq_true q170
          refine start_ (n := 43) (S := fun w' => w'.cell? ad165 = some (.slice (some ad170) ((rd_T43 t162 0).f0).length c165_0) ∧ w'.cell? ⟨ad165.block, ad165.off + 1, none⟩ = some (.int .i64 ((rd_T43 t162 0).f1)) ∧ w'.cell? ⟨ad165.block, ad165.off + 2, none⟩ = some (.slice A166_0 ((rd_T43 t162 1).f0).length c166_0) ∧ w'.cell? ⟨ad165.block, ad165.off + 2 + 1, none⟩ = some (.int .i64 ((rd_T43 t162 1).f1)) ∧ w'.cell? ⟨ad165.block, ad165.off + 4, none⟩ = some (.slice A167_0 ((rd_T43 t162 2).f0).length c167_0) ∧ w'.cell? ⟨ad165.block, ad165.off + 4 + 1, none⟩ = some (.int .i64 ((rd_T43 t162 2).f1)) ∧ w'.cell? ad165 = some (.slice (some ad170) ((rd_T43 t162 0).f0).length c165_0) ∧ w'.cell? ⟨ad165.block, ad165.off + 1, none⟩ = some (.int .i64 ((rd_T43 t162 0).f1)) ∧ w'.cell? ad165 = some (.slice (some ad170) ((rd_T43 t162 0).f0).length c165_0) ∧ w'.cell? ⟨ad165.block, ad165.off + 1, none⟩ = some (.int .i64 ((rd_T43 t162 0).f1)) ∧ w'.cell? ad170 = some (.int .i64 ((rd_T38 ((rd_T43 t162 0).f0) 0).f0)) ∧ w'.cell? ⟨ad170.block, ad170.off + 1, none⟩ = some (.int .i64 ((rd_T38 ((rd_T43 t162 0).f0) 0).f1)) ∧ w'.cell? ⟨ad170.block, ad170.off + 2, none⟩ = some (.string ((rd_T38 ((rd_T43 t162 0).f0) 0).f2))) (ds := []) #[false, false, false, false, false, false, false, false, false, false, false, false, false, false, false, false, false, false, false, false, false, false, false, false, false, false, false, false, false, false, false, false, false, false, false, false, false, false, false, false, false, false, false] (by kernel_rfl) rfl rfl ⟨hx165_0, hx165_1, hx166_0, hx166_1, hx167_0, hx167_1, hx168_0, hx168_1, hx169_0, hx169_1, hx170_0, hx170_1, hx170_2⟩ (fun hHeld => ?_); refine with_tabW erasurelaw35_awake.tab2 erasurelaw35_awake.bits2 (fun HT_ HW_ => ?_)
          generalize w18.drew = w19 at HO158 HO161 HO164 HB HL165_0 HL166_0 HL167_0 HL168_0 HL169_0 HR165_0 HR166_0 HR167_0 HR168_0 HR169_0 hx165_0 hx165_1 hx166_0 hx166_1 hx167_0 hx167_1 hx168_0 hx168_1 hx169_0 hx169_1 hx170_0 hx170_1 hx170_2 hHeld ⊢
          refine pu (i := 0) (N := some 6) (bl 43 1) (any_of HT_.out (by kernel_rfl)) ?_
          refine pu (i := 1) (N := some 7) (bl 43 3) (any_of HT_.out (by kernel_rfl)) ?_
          refine pu (i := 2) (N := some 8) (bl 43 7) (any_of HT_.out (by kernel_rfl)) ?_
          refine pu (i := 3) (N := some 9) (bl 43 15) (any_of HT_.out (by kernel_rfl)) ?_
          refine pu (i := 4) (N := some 10) (bl 43 31) (any_of HT_.out (by kernel_rfl)) ?_
          refine pu (i := 5) (N := some 11) (bl 43 63) (any_of HT_.out (by kernel_rfl)) ?_
          refine pu (i := 6) (N := some 12) (bl 43 127) (any_of HT_.out (by kernel_rfl)) ?_
          refine ta (i := 7) (N := some 13) (bl 43 255) (take_ofW HT_.out HW_.out (by kernel_rfl)) hHeld ?_
          refine pu (i := 8) (N := some 14) (bl 43 511) (any_of HT_.out (by kernel_rfl)) ?_
          refine pu (i := 9) (N := some 15) (bl 43 1023) (any_of HT_.out (by kernel_rfl)) ?_
          refine pu (i := 10) (N := some 16) (bl 43 2047) (any_of HT_.out (by kernel_rfl)) ?_
          refine pu (i := 11) (N := some 17) (bl 43 4095) (any_of HT_.out (by kernel_rfl)) ?_
          refine pu (i := 12) (N := some 18) (bl 43 8191) (any_of HT_.out (by kernel_rfl)) ?_
          refine pu (i := 13) (N := some 19) (bl 43 16383) (any_of HT_.out (by kernel_rfl)) ?_
          refine ta (i := 14) (N := some 20) (bl 43 32767) (take_ofW HT_.out HW_.out (by kernel_rfl)) hHeld ?_
          refine pu (i := 15) (N := some 21) (bl 43 65535) (any_of HT_.out (by kernel_rfl)) ?_
          refine pu (i := 16) (N := some 22) (bl 43 131071) (any_of HT_.out (by kernel_rfl)) ?_
          refine pu (i := 17) (N := some 23) (bl 43 262143) (any_of HT_.out (by kernel_rfl)) ?_
          refine pu (i := 18) (N := some 24) (bl 43 524287) (any_of HT_.out (by kernel_rfl)) ?_
          refine pu (i := 19) (N := some 25) (bl 43 1048575) (any_of HT_.out (by kernel_rfl)) ?_
          refine pu (i := 20) (N := some 26) (bl 43 2097151) (any_of HT_.out (by kernel_rfl)) ?_
          refine ta (i := 21) (N := some 27) (bl 43 4194303) (take_ofW HT_.out HW_.out (by kernel_rfl)) hHeld ?_
          refine pu (i := 22) (N := some 28) (bl 43 8388607) (any_of HT_.out (by kernel_rfl)) ?_
          refine pu (i := 23) (N := some 29) (bl 43 16777215) (any_of HT_.out (by kernel_rfl)) ?_
          refine pu (i := 24) (N := some 30) (bl 43 33554431) (any_of HT_.out (by kernel_rfl)) ?_
          refine pu (i := 25) (N := some 31) (bl 43 67108863) (any_of HT_.out (by kernel_rfl)) ?_
          refine pu (i := 26) (N := some 32) (bl 43 134217727) (any_of HT_.out (by kernel_rfl)) ?_
          refine pu (i := 27) (N := some 33) (bl 43 268435455) (any_of HT_.out (by kernel_rfl)) ?_
          refine ta (i := 28) (N := some 34) (bl 43 536870911) (take_ofW HT_.out HW_.out (by kernel_rfl)) hHeld ?_
          refine pu (i := 29) (N := some 35) (bl 43 1073741823) (any_of HT_.out (by kernel_rfl)) ?_
          refine pu (i := 30) (N := some 36) (bl 43 2147483647) (any_of HT_.out (by kernel_rfl)) ?_
          refine pu (i := 31) (N := some 37) (bl 43 4294967295) (any_of HT_.out (by kernel_rfl)) ?_
          refine pu (i := 32) (N := some 38) (bl 43 8589934591) (any_of HT_.out (by kernel_rfl)) ?_
          refine pu (i := 33) (N := some 39) (bl 43 17179869183) (any_of HT_.out (by kernel_rfl)) ?_
          refine pu (i := 34) (N := some 40) (bl 43 34359738367) (any_of HT_.out (by kernel_rfl)) ?_
          refine pu (i := 35) (N := some 41) (bl 43 68719476735) (any_of HT_.out (by kernel_rfl)) ?_
          refine ta (i := 36) (N := some 42) (bl 43 137438953471) (take_ofW HT_.out HW_.out (by kernel_rfl)) hHeld ?_
          refine pu (i := 37) (N := some 43) (bl 43 274877906943) (any_of HT_.out (by kernel_rfl)) ?_
          refine ta (i := 38) (N := some 44) (bl 43 549755813887) (take_ofW HT_.out HW_.out (by kernel_rfl)) hHeld ?_
          refine one_ (i := 39) (N := some 45) (bl 43 1099511627775) rfl rfl (one_of HT_.out (by kernel_rfl)) (by decide) (fun K hK => ?_)
          refine goes_ Try.func20 (by kernel_rfl) rfl #[.int .i64 1] (by rfl) rfl rfl (by (try simp only [List.map_toArray, List.map_cons, List.map_nil]); first | done | rfl | (simp only [List.length_drop, List.length_take]; rfl)) ?_
          with_reducible refine (erasureref01_Int.calls 1 t171 t172 t173 _ A12.out).mono ?_
          rintro e w21 ⟨rfl, hb⟩
          have HS0_ := (hb.cell (World.block_lt_of_cell? _ _ (hHeld.1))).trans (hHeld.1)
          have HS1_ := (hb.cell (World.block_lt_of_cell? _ _ (hHeld.2.1))).trans (hHeld.2.1)
          have HS2_ := (hb.cell (World.block_lt_of_cell? _ _ (hHeld.2.2.1))).trans (hHeld.2.2.1)
          have HS3_ := (hb.cell (World.block_lt_of_cell? _ _ (hHeld.2.2.2.1))).trans (hHeld.2.2.2.1)
          have HS4_ := (hb.cell (World.block_lt_of_cell? _ _ (hHeld.2.2.2.2.1))).trans (hHeld.2.2.2.2.1)
          have HS5_ := (hb.cell (World.block_lt_of_cell? _ _ (hHeld.2.2.2.2.2.1))).trans (hHeld.2.2.2.2.2.1)
          have HS6_ := (hb.cell (World.block_lt_of_cell? _ _ (hHeld.2.2.2.2.2.2.1))).trans (hHeld.2.2.2.2.2.2.1)
          have HS7_ := (hb.cell (World.block_lt_of_cell? _ _ (hHeld.2.2.2.2.2.2.2.1))).trans (hHeld.2.2.2.2.2.2.2.1)
          have HS8_ := (hb.cell (World.block_lt_of_cell? _ _ (hHeld.2.2.2.2.2.2.2.2.1))).trans (hHeld.2.2.2.2.2.2.2.2.1)
          have HS9_ := (hb.cell (World.block_lt_of_cell? _ _ (hHeld.2.2.2.2.2.2.2.2.2.1))).trans (hHeld.2.2.2.2.2.2.2.2.2.1)
          have HS10_ := (hb.cell (World.block_lt_of_cell? _ _ (hHeld.2.2.2.2.2.2.2.2.2.2.1))).trans (hHeld.2.2.2.2.2.2.2.2.2.2.1)
          have HS11_ := (hb.cell (World.block_lt_of_cell? _ _ (hHeld.2.2.2.2.2.2.2.2.2.2.2.1))).trans (hHeld.2.2.2.2.2.2.2.2.2.2.2.1)
          have HS12_ := (hb.cell (World.block_lt_of_cell? _ _ (hHeld.2.2.2.2.2.2.2.2.2.2.2.2))).trans (hHeld.2.2.2.2.2.2.2.2.2.2.2.2)
          refine ⟨_, rfl, ?_⟩
          have n0_ := Aside0.mk (Kd.R_below (by (with_reducible repeat (first | apply Kd.R_alloc | apply Kd.R_drewN | apply Kd.R_drew)); exact HO158.out) hb)
          have n1_ := Aside0.mk (Kd.S_below (by (with_reducible repeat (first | apply Kd.S_alloc | apply Kd.S_drewN | apply Kd.S_drew)); exact HO161.out) hb)
          have n2_ := Aside0.mk (Kd.V_below (by (with_reducible repeat (first | apply Kd.V_alloc | apply Kd.V_drewN | apply Kd.V_drew)); exact HO164.out) hb)
          have n3_ := Aside0.mk (Kd.V_below (by (with_reducible repeat (first | apply Kd.V_alloc | apply Kd.V_drewN | apply Kd.V_drew)); exact HL165_0.out) hb)
          have n4_ := Aside0.mk (Kd.V_below (by (with_reducible repeat (first | apply Kd.V_alloc | apply Kd.V_drewN | apply Kd.V_drew)); exact HL166_0.out) hb)
          have n5_ := Aside0.mk (Kd.V_below (by (with_reducible repeat (first | apply Kd.V_alloc | apply Kd.V_drewN | apply Kd.V_drew)); exact HL167_0.out) hb)
          have n6_ := Aside0.mk (Kd.V_below (by (with_reducible repeat (first | apply Kd.V_alloc | apply Kd.V_drewN | apply Kd.V_drew)); exact HL168_0.out) hb)
          have n7_ := Aside0.mk (Kd.V_below (by (with_reducible repeat (first | apply Kd.V_alloc | apply Kd.V_drewN | apply Kd.V_drew)); exact HL169_0.out) hb)
          have n8_ := Aside0.mk (Kd.C_below (by repeat (first | (with_reducible exact HR165_0.out) | (with_reducible refine Kd.C_alloc ?_ _) | (with_reducible refine Kd.C_drewN ?_ _) | (with_reducible refine Kd.C_drew ?_) | exact HR165_0.out)) hb)
          have n9_ := Aside0.mk (Kd.C_below (by repeat (first | (with_reducible exact HR166_0.out) | (with_reducible refine Kd.C_alloc ?_ _) | (with_reducible refine Kd.C_drewN ?_ _) | (with_reducible refine Kd.C_drew ?_) | exact HR166_0.out)) hb)
          have n10_ := Aside0.mk (Kd.C_below (by repeat (first | (with_reducible exact HR167_0.out) | (with_reducible refine Kd.C_alloc ?_ _) | (with_reducible refine Kd.C_drewN ?_ _) | (with_reducible refine Kd.C_drew ?_) | exact HR167_0.out)) hb)
          have n11_ := Aside0.mk (Kd.C_below (by repeat (first | (with_reducible exact HR168_0.out) | (with_reducible refine Kd.C_alloc ?_ _) | (with_reducible refine Kd.C_drewN ?_ _) | (with_reducible refine Kd.C_drew ?_) | exact HR168_0.out)) hb)
          have n12_ := Aside0.mk (Kd.C_below (by repeat (first | (with_reducible exact HR169_0.out) | (with_reducible refine Kd.C_alloc ?_ _) | (with_reducible refine Kd.C_drewN ?_ _) | (with_reducible refine Kd.C_drew ?_) | exact HR169_0.out)) hb)
          have n13_ := Aside0.mk (below_step (by repeat (first | (with_reducible first | exact HB.out | apply below_alloc | apply pw_below_drewN | apply below_drew1) | exact HB.out)) hb)
          clear HO158
          clear HO161
          clear HO164
          clear HL165_0
          clear HL166_0
          clear HL167_0
          clear HL168_0
          clear HL169_0
          clear HR165_0
          clear HR166_0
          clear HR167_0
          clear HR168_0
          clear HR169_0
          clear HB
          have HO158 := n0_
          have HO161 := n1_
          have HO164 := n2_
          have HL165_0 := n3_
          have HL166_0 := n4_
          have HL167_0 := n5_
          have HL168_0 := n6_
          have HL169_0 := n7_
          have HR165_0 := n8_
          have HR166_0 := n9_
          have HR167_0 := n10_
          have HR168_0 := n11_
          have HR169_0 := n12_
          have HB := n13_
          clear n0_ n1_ n2_ n3_ n4_ n5_ n6_ n7_ n8_ n9_ n10_ n11_ n12_ n13_
          (try clear hb)
          (try clear hb2)
          (try clear hk)
          (try clear hi)
          refine hK.out _ _ ⟨HS0_, HS1_, HS2_, HS3_, HS4_, HS5_, HS6_, HS7_, HS8_, HS9_, HS10_, HS11_, HS12_⟩ (fun hHeld => ?_)
          clear hK K
          refine norm_ (a' := ?_) ?_ ?_
          rotate_left
          ·show Act.put _ (some 45) _ = _
           simp only [Act.put, List.setIfInBounds_toArray, List.set_cons_zero, List.set_cons_succ, i64_w, i32_w]
           rfl
          refine pu (i := 40) (N := some 46) (bl 43 2199023255551) (any_of HT_.out (by kernel_rfl)) ?_
          refine pu (i := 41) (N := some 47) (bl 43 4398046511103) (any_of HT_.out (by kernel_rfl)) ?_
          refine pu (i := 42) (N := some 0) (bl 43 8796093022207) (any_of HT_.out (by kernel_rfl)) ?_
          refine done_ (done_of HT_.out (by kernel_rfl)) ?_
          try go_wp2
          go_ret
          exact ⟨by first | rfl | (simp [errW_none, errW_some] <;> rfl) | (simp [*, errW_none, errW_some] <;> rfl), by repeat (first | (with_reducible first | exact HB.out | apply below_alloc | apply pw_below_drewN | apply below_drew1) | exact HB.out)⟩
         ·rw [if_neg c11] at H
          exact absurd H (by simp)
        ·rw [if_neg c10] at H
         have c10b0 : ((((rd_T43 t162 0).f0).length : Int) == 1) = false := beq_eq_false_iff_ne.mpr c10
         have c10b1 : ((((rd_T43 t162 0).f0).length : Int) != 1) = true := bne_iff_ne.mpr c10
         obtain rfl := Option.some.inj H
         go_enter Try.func12, Try.ntmps12
         try go_wp2_with (first | ((with_reducible refine gate_dst (N := 3) rfl ?_); (try (refine gate_guard (by rfl) ?_; dsimp only)); refine Kd.R_lit (Kd.int .i64) _ 3 ?hg (N := 3) ?hd (xs := ([4, 5, 9, 10] : List Int)) (inner := [.int .i64 4, .int .i64 5, .int .i64 9, .int .i64 10]) (ok := fun _ => True) (okp := fun _ => True) ?hr ?hp (fun _ hk => hk) trivial (Below.refl _ _) (Nat.le_refl _) (by simp) ?_; (case hd => rfl); (case hg => rfl); (case hr => first | (go_simp; done) | (go_simp; rfl)); (case hp => exact (Reps.one (show Kd.M (Kd.int .i64) _ _ _ 4 [.int .i64 4] from rfl) (Reps.one (show Kd.M (Kd.int .i64) _ _ _ 5 [.int .i64 5] from rfl) (Reps.one (show Kd.M (Kd.int .i64) _ _ _ 9 [.int .i64 9] from rfl) (Reps.one (show Kd.M (Kd.int .i64) _ _ _ 10 [.int .i64 10] from rfl) (Reps.none _ _)))))); intro v157 w22 ho23 hb hg_ hnew_; clear hg_ hnew_; (first | rw [← Ny156.out] at ho23 | (simp only [Int.reduceToNat] at ho23; rw [← Ny156.out] at ho23)); have n0_ := Aside0.mk (Kd.R_lower ho23 (below_size (by repeat (first | (with_reducible first | exact HB.out | apply below_alloc | apply pw_below_drewN | apply below_drew1) | exact HB.out)))); have n1_ := Aside0.mk (below_step (by repeat (first | (with_reducible first | exact HB.out | apply below_alloc | apply pw_below_drewN | apply below_drew1) | exact HB.out)) hb); clear HB; have HO158 := n0_; have HB := n1_; clear n0_ n1_; clear hb ho23; obtain ⟨Ao24, co24, eo24⟩ := Kd.R_slice HO158.out; subst eo24) | ((with_reducible refine gate_callee (f := 18) rfl ?_); refine goesL_ (some 4) rfl rfl Try.func18 (by kernel_rfl) rfl #[.slice Ao24 y156.length co24] rfl (by (try simp only [List.map_toArray, List.map_cons, List.map_nil]); first | done | rfl | (simp only [List.length_drop, List.length_take]; rfl)) ?_; (with_reducible refine (erasurelaw35_Groups.calls k _ _ y156 t159 _ ?side1 ?side2 A1.out).mono ?_); (case side1 => repeat (first | exact (Kd.R_reads' HO158.out).2.2 | (with_reducible refine Kd.C_alloc ?_ _) | (with_reducible refine Kd.C_drewN ?_ _) | (with_reducible refine Kd.C_drew ?_))); (case side2 => exact (Kd.R_reads' HO158.out).2.1); rintro e w25 ⟨v160, rfl, ho0, hb⟩; refine ⟨_, rfl, ?_⟩; have n0_ := Aside0.mk (Kd.R_below (by (with_reducible repeat (first | apply Kd.R_alloc | apply Kd.R_drewN | apply Kd.R_drew)); exact HO158.out) hb); have n1_ := Aside0.mk (Kd.S_lower ho0 (below_size (by repeat (first | (with_reducible first | exact HB.out | apply below_alloc | apply pw_below_drewN | apply below_drew1) | exact HB.out)))); have n2_ := Aside0.mk (below_step (by repeat (first | (with_reducible first | exact HB.out | apply below_alloc | apply pw_below_drewN | apply below_drew1) | exact HB.out)) hb); clear HO158; clear HB; have HO158 := n0_; have HO161 := n1_; have HB := n2_; clear n0_ n1_ n2_; (try clear hb); (try clear hb2); (try clear hk); (try clear hi); (try clear ho0); obtain ⟨Ao26, co26, eo26⟩ := Kd.S_slice HO161.out; subst eo26) | ((with_reducible refine gate_callee (f := 15) rfl ?_); refine goesL_ (some 5) rfl rfl Try.func15 (by kernel_rfl) rfl #[.agg #[.string (⟨#[]⟩ : ByteArray), .string (⟨#[]⟩ : ByteArray), .int .i64 5], .int .i64 1, .slice Ao26 t159.length co26] rfl (by (try simp only [List.map_toArray, List.map_cons, List.map_nil]); first | done | rfl | (simp only [List.length_drop, List.length_take]; rfl)) ?_; (with_reducible refine (release_Publish.calls k (⟨#[]⟩ : ByteArray) (⟨#[]⟩ : ByteArray) 5 1 _ _ t159 t162 _ ?side1 ?side2 A2.out).mono ?_); (case side1 => repeat (first | exact (Kd.S_reads' HO161.out).2.2 | (with_reducible refine Kd.C_alloc ?_ _) | (with_reducible refine Kd.C_drewN ?_ _) | (with_reducible refine Kd.C_drew ?_))); (case side2 => exact (Kd.S_reads' HO161.out).2.1); rintro e w27 ⟨v163, rfl, ho0, hb⟩; refine ⟨_, rfl, ?_⟩; have n0_ := Aside0.mk (Kd.R_below (by (with_reducible repeat (first | apply Kd.R_alloc | apply Kd.R_drewN | apply Kd.R_drew)); exact HO158.out) hb); have n1_ := Aside0.mk (Kd.S_below (by (with_reducible repeat (first | apply Kd.S_alloc | apply Kd.S_drewN | apply Kd.S_drew)); exact HO161.out) hb); have n2_ := Aside0.mk (Kd.V_lower (Kd.V_mono (ok' := fun k_ => some k_ ≠ (.slice Ao24 y156.length co24 : Value).ownBlock ∧ some k_ ≠ (.slice Ao26 t159.length co26 : Value).ownBlock) ho0 (fun k_ hk_ => ⟨(Kd.fresh' (Kd.R_lt (by (with_reducible repeat (first | apply Kd.R_alloc | apply Kd.R_drewN | apply Kd.R_drew)); exact HO158.out)) k_ hk_), (Kd.fresh' (Kd.S_lt (by (with_reducible repeat (first | apply Kd.S_alloc | apply Kd.S_drewN | apply Kd.S_drew)); exact HO161.out)) k_ hk_)⟩)) (below_size (by repeat (first | (with_reducible first | exact HB.out | apply below_alloc | apply pw_below_drewN | apply below_drew1) | exact HB.out)))); have n3_ := Aside0.mk (below_step (by repeat (first | (with_reducible first | exact HB.out | apply below_alloc | apply pw_below_drewN | apply below_drew1) | exact HB.out)) hb); clear HO158; clear HO161; clear HB; have HO158 := n0_; have HO161 := n1_; have HO164 := n2_; have HB := n3_; clear n0_ n1_ n2_ n3_; (try clear hb); (try clear hb2); (try clear hk); (try clear hi); (try clear ho0)))
         have n0_ := Aside0.mk (Kd.R_drew HO158.out)
         have n1_ := Aside0.mk (Kd.S_drew HO161.out)
         have n2_ := Aside0.mk (Kd.V_drew HO164.out)
         have n3_ := Aside0.mk (below_drew1 HB.out)
         clear HO158
         clear HO161
         clear HO164
         clear HB
         have HO158 := n0_
         have HO161 := n1_
         have HO164 := n2_
         have HB := n3_
         clear n0_ n1_ n2_ n3_
         obtain ⟨Ao29, co29, eo29⟩ := Kd.V_slice HO164.out
         (first | subst eo29 | (injection eo29 with f1_ f2_ f3_; have f4_ := f1_.symm; have f5_ := f3_.symm; clear f1_ f2_ f3_; subst f4_; subst f5_))
         have p165 : 0 ≤ (0 : Int) := (by omega)
         have q165 : 0 < (t162.length : Int) := of_decide_eq_true (by first | (with_reducible assumption) | assumption)
         obtain ⟨ad165, A165_0, c165_0, e165, hx165_0, hx165_1, hl165_0, hi165_0⟩ := at_T43 (Kd.V_reads' HO164.out).2.2 0 p165 q165
         cases e165
         obtain ⟨ce165, hce165, hMe165, hcc165⟩ := Kd.V_get HO164.out z43 0 p165 (by first | exact q165 | exact of_decide_eq_true (by first | (with_reducible assumption) | assumption) | (have e_ := (Kd.V_reads' HO164.out).1; omega))
         obtain ⟨ua165_0, uc165_0, rfl, ul165_0, ge165_0⟩ := k43_openF hMe165
         have hv165_0 := hcc165 0 _ rfl
         rw [Nat.add_zero] at hv165_0
         replace hv165_0 := Option.some.inj (hv165_0.symm.trans hx165_0)
         injection hv165_0 with hva_ hvn_ hvc_
         rw [hva_] at ge165_0
         rw [hvc_] at ul165_0
         have HL165_0 := Aside0.mk (show Kd.V k38 38 _ w.heap.size _ _ ((rd_T43 t162 0).f0) from Kd.V_mk ul165_0 ge165_0)
         clear hva_ hvn_ hvc_ ge165_0 ul165_0
         clear hcc165 hce165
         have qi165 : (0 < t162.length) = True := eq_true (by omega)
         (try rw [show ((0 : Int)).toNat = 0 from rfl] at hx165_0)
         (try rw [show 0 * 2 = 0 from rfl] at hx165_0)
         (try rw [Addr.add_zero'] at hx165_0)
         (try rw [show ((0 : Int)).toNat = 0 from rfl] at hx165_1)
         (try rw [show 0 * 2 = 0 from rfl] at hx165_1)
         (try rw [Addr.add_zero'] at hx165_1)
         have HR165_0 := Aside0.mk hi165_0
         have HC165_0 := Aside0.mk hl165_0
         clear hi165_0 hl165_0
         replace p165 := eq_true p165
         replace q165 := eq_true q165
         have p166 : 0 ≤ (1 : Int) := (by omega)
         have q166 : 1 < (t162.length : Int) := of_decide_eq_true (by first | (with_reducible assumption) | assumption)
         obtain ⟨ad166, A166_0, c166_0, e166, hx166_0, hx166_1, hl166_0, hi166_0⟩ := at_T43 (Kd.V_reads' HO164.out).2.2 1 p166 q166
         obtain rfl : ad165 = ad166 := (by injection e166)
         obtain ⟨ce166, hce166, hMe166, hcc166⟩ := Kd.V_get HO164.out z43 1 p166 (by first | exact q166 | exact of_decide_eq_true (by first | (with_reducible assumption) | assumption) | (have e_ := (Kd.V_reads' HO164.out).1; omega))
         obtain ⟨ua166_0, uc166_0, rfl, ul166_0, ge166_0⟩ := k43_openF hMe166
         have hv166_0 := hcc166 0 _ rfl
         rw [Nat.add_zero] at hv166_0
         replace hv166_0 := Option.some.inj (hv166_0.symm.trans hx166_0)
         injection hv166_0 with hva_ hvn_ hvc_
         rw [hva_] at ge166_0
         rw [hvc_] at ul166_0
         have HL166_0 := Aside0.mk (show Kd.V k38 38 _ w.heap.size _ _ ((rd_T43 t162 1).f0) from Kd.V_mk ul166_0 ge166_0)
         clear hva_ hvn_ hvc_ ge166_0 ul166_0
         clear hcc166 hce166
         (try simp only [show (1 : Int).toNat = 1 from rfl, Nat.reduceMul, Nat.reduceEqDiff, Go.Addr.add, ↓reduceIte] at hx166_0)
         (try simp only [show (1 : Int).toNat = 1 from rfl, Nat.reduceMul, Nat.reduceEqDiff, Go.Addr.add, ↓reduceIte] at hx166_1)
         have qi166 : (1 < t162.length) = True := eq_true (by omega)
         (try rw [show ((1 : Int)).toNat = 1 from rfl] at hx166_0)
         (try rw [show 1 * 2 = 2 from rfl] at hx166_0)
         (try rw [show ((1 : Int)).toNat = 1 from rfl] at hx166_1)
         (try rw [show 1 * 2 = 2 from rfl] at hx166_1)
         have HR166_0 := Aside0.mk hi166_0
         have HC166_0 := Aside0.mk hl166_0
         clear hi166_0 hl166_0
         replace p166 := eq_true p166
         replace q166 := eq_true q166
         have p167 : 0 ≤ (2 : Int) := (by omega)
         have q167 : 2 < (t162.length : Int) := of_decide_eq_true (by first | (with_reducible assumption) | assumption)
         obtain ⟨ad167, A167_0, c167_0, e167, hx167_0, hx167_1, hl167_0, hi167_0⟩ := at_T43 (Kd.V_reads' HO164.out).2.2 2 p167 q167
         obtain rfl : ad165 = ad167 := (by injection e167)
         obtain ⟨ce167, hce167, hMe167, hcc167⟩ := Kd.V_get HO164.out z43 2 p167 (by first | exact q167 | exact of_decide_eq_true (by first | (with_reducible assumption) | assumption) | (have e_ := (Kd.V_reads' HO164.out).1; omega))
         obtain ⟨ua167_0, uc167_0, rfl, ul167_0, ge167_0⟩ := k43_openF hMe167
         have hv167_0 := hcc167 0 _ rfl
         rw [Nat.add_zero] at hv167_0
         replace hv167_0 := Option.some.inj (hv167_0.symm.trans hx167_0)
         injection hv167_0 with hva_ hvn_ hvc_
         rw [hva_] at ge167_0
         rw [hvc_] at ul167_0
         have HL167_0 := Aside0.mk (show Kd.V k38 38 _ w.heap.size _ _ ((rd_T43 t162 2).f0) from Kd.V_mk ul167_0 ge167_0)
         clear hva_ hvn_ hvc_ ge167_0 ul167_0
         clear hcc167 hce167
         (try simp only [show (2 : Int).toNat = 2 from rfl, Nat.reduceMul, Nat.reduceEqDiff, Go.Addr.add, ↓reduceIte] at hx167_0)
         (try simp only [show (2 : Int).toNat = 2 from rfl, Nat.reduceMul, Nat.reduceEqDiff, Go.Addr.add, ↓reduceIte] at hx167_1)
         have qi167 : (2 < t162.length) = True := eq_true (by omega)
         (try rw [show ((2 : Int)).toNat = 2 from rfl] at hx167_0)
         (try rw [show 2 * 2 = 4 from rfl] at hx167_0)
         (try rw [show ((2 : Int)).toNat = 2 from rfl] at hx167_1)
         (try rw [show 2 * 2 = 4 from rfl] at hx167_1)
         have HR167_0 := Aside0.mk hi167_0
         have HC167_0 := Aside0.mk hl167_0
         clear hi167_0 hl167_0
         replace p167 := eq_true p167
         replace q167 := eq_true q167
         have p168 : 0 ≤ (0 : Int) := (by omega)
         have q168 : 0 < (t162.length : Int) := of_decide_eq_true (by first | (with_reducible assumption) | assumption)
         obtain ⟨ad168, A168_0, c168_0, e168, hx168_0, hx168_1, hl168_0, hi168_0⟩ := at_T43 (Kd.V_reads' HO164.out).2.2 0 p168 q168
         obtain rfl : ad165 = ad168 := (by injection e168)
         obtain ⟨ce168, hce168, hMe168, hcc168⟩ := Kd.V_get HO164.out z43 0 p168 (by first | exact q168 | exact of_decide_eq_true (by first | (with_reducible assumption) | assumption) | (have e_ := (Kd.V_reads' HO164.out).1; omega))
         obtain ⟨ua168_0, uc168_0, rfl, ul168_0, ge168_0⟩ := k43_openF hMe168
         have hv168_0 := hcc168 0 _ rfl
         rw [Nat.add_zero] at hv168_0
         replace hv168_0 := Option.some.inj (hv168_0.symm.trans hx168_0)
         injection hv168_0 with hva_ hvn_ hvc_
         rw [hva_] at ge168_0
         rw [hvc_] at ul168_0
         have HL168_0 := Aside0.mk (show Kd.V k38 38 _ w.heap.size _ _ ((rd_T43 t162 0).f0) from Kd.V_mk ul168_0 ge168_0)
         clear hva_ hvn_ hvc_ ge168_0 ul168_0
         clear hcc168 hce168
         have qi168 : (0 < t162.length) = True := eq_true (by omega)
         (try rw [show ((0 : Int)).toNat = 0 from rfl] at hx168_0)
         (try rw [show 0 * 2 = 0 from rfl] at hx168_0)
         (try rw [Addr.add_zero'] at hx168_0)
         (try rw [show ((0 : Int)).toNat = 0 from rfl] at hx168_1)
         (try rw [show 0 * 2 = 0 from rfl] at hx168_1)
         (try rw [Addr.add_zero'] at hx168_1)
         have HR168_0 := Aside0.mk hi168_0
         have HC168_0 := Aside0.mk hl168_0
         clear hi168_0 hl168_0
         replace p168 := eq_true p168
         replace q168 := eq_true q168
         have ea_ := Option.some.inj (hx165_0.symm.trans hx168_0)
         injection ea_ with ea_ en_ ec_
         subst ea_
         subst ec_
         clear en_
         refine start_ (n := 43) (S := fun w' => w'.cell? ad165 = some (.slice A165_0 ((rd_T43 t162 0).f0).length c165_0) ∧ w'.cell? ⟨ad165.block, ad165.off + 1, none⟩ = some (.int .i64 ((rd_T43 t162 0).f1)) ∧ w'.cell? ⟨ad165.block, ad165.off + 2, none⟩ = some (.slice A166_0 ((rd_T43 t162 1).f0).length c166_0) ∧ w'.cell? ⟨ad165.block, ad165.off + 2 + 1, none⟩ = some (.int .i64 ((rd_T43 t162 1).f1)) ∧ w'.cell? ⟨ad165.block, ad165.off + 4, none⟩ = some (.slice A167_0 ((rd_T43 t162 2).f0).length c167_0) ∧ w'.cell? ⟨ad165.block, ad165.off + 4 + 1, none⟩ = some (.int .i64 ((rd_T43 t162 2).f1)) ∧ w'.cell? ad165 = some (.slice A165_0 ((rd_T43 t162 0).f0).length c165_0) ∧ w'.cell? ⟨ad165.block, ad165.off + 1, none⟩ = some (.int .i64 ((rd_T43 t162 0).f1))) (ds := []) #[false, false, false, false, false, false, false, false, false, false, false, false, false, false, false, false, false, false, false, false, false, false, false, false, false, false, false, false, false, false, false, false, false, false, false, false, false, false, false, false, false, false, false] (by kernel_rfl) rfl rfl ⟨hx165_0, hx165_1, hx166_0, hx166_1, hx167_0, hx167_1, hx168_0, hx168_1⟩ (fun hHeld => ?_); refine with_tabW erasurelaw35_awake.tab2 erasurelaw35_awake.bits2 (fun HT_ HW_ => ?_)
         generalize w27.drew = w28 at HO158 HO161 HO164 HB HL165_0 HL166_0 HL167_0 HL168_0 HR165_0 HR166_0 HR167_0 HR168_0 hx165_0 hx165_1 hx166_0 hx166_1 hx167_0 hx167_1 hx168_0 hx168_1 hHeld ⊢
         refine pu (i := 0) (N := some 6) (bl 43 1) (any_of HT_.out (by kernel_rfl)) ?_
         refine pu (i := 1) (N := some 7) (bl 43 3) (any_of HT_.out (by kernel_rfl)) ?_
         refine pu (i := 2) (N := some 8) (bl 43 7) (any_of HT_.out (by kernel_rfl)) ?_
         refine pu (i := 3) (N := some 9) (bl 43 15) (any_of HT_.out (by kernel_rfl)) ?_
         refine pu (i := 4) (N := some 10) (bl 43 31) (any_of HT_.out (by kernel_rfl)) ?_
         refine pu (i := 5) (N := some 11) (bl 43 63) (any_of HT_.out (by kernel_rfl)) ?_
         refine pu (i := 6) (N := some 12) (bl 43 127) (any_of HT_.out (by kernel_rfl)) ?_
         refine ta (i := 7) (N := some 13) (bl 43 255) (take_ofW HT_.out HW_.out (by kernel_rfl)) hHeld ?_
         refine pu (i := 8) (N := some 14) (bl 43 511) (any_of HT_.out (by kernel_rfl)) ?_
         refine pu (i := 9) (N := some 15) (bl 43 1023) (any_of HT_.out (by kernel_rfl)) ?_
         refine pu (i := 10) (N := some 16) (bl 43 2047) (any_of HT_.out (by kernel_rfl)) ?_
         refine pu (i := 11) (N := some 17) (bl 43 4095) (any_of HT_.out (by kernel_rfl)) ?_
         refine pu (i := 12) (N := some 18) (bl 43 8191) (any_of HT_.out (by kernel_rfl)) ?_
         refine pu (i := 13) (N := some 19) (bl 43 16383) (any_of HT_.out (by kernel_rfl)) ?_
         refine ta (i := 14) (N := some 20) (bl 43 32767) (take_ofW HT_.out HW_.out (by kernel_rfl)) hHeld ?_
         refine pu (i := 15) (N := some 21) (bl 43 65535) (any_of HT_.out (by kernel_rfl)) ?_
         refine pu (i := 16) (N := some 22) (bl 43 131071) (any_of HT_.out (by kernel_rfl)) ?_
         refine pu (i := 17) (N := some 23) (bl 43 262143) (any_of HT_.out (by kernel_rfl)) ?_
         refine pu (i := 18) (N := some 24) (bl 43 524287) (any_of HT_.out (by kernel_rfl)) ?_
         refine pu (i := 19) (N := some 25) (bl 43 1048575) (any_of HT_.out (by kernel_rfl)) ?_
         refine pu (i := 20) (N := some 26) (bl 43 2097151) (any_of HT_.out (by kernel_rfl)) ?_
         refine ta (i := 21) (N := some 27) (bl 43 4194303) (take_ofW HT_.out HW_.out (by kernel_rfl)) hHeld ?_
         refine pu (i := 22) (N := some 28) (bl 43 8388607) (any_of HT_.out (by kernel_rfl)) ?_
         refine pu (i := 23) (N := some 29) (bl 43 16777215) (any_of HT_.out (by kernel_rfl)) ?_
         refine pu (i := 24) (N := some 30) (bl 43 33554431) (any_of HT_.out (by kernel_rfl)) ?_
         refine pu (i := 25) (N := some 31) (bl 43 67108863) (any_of HT_.out (by kernel_rfl)) ?_
         refine pu (i := 26) (N := some 32) (bl 43 134217727) (any_of HT_.out (by kernel_rfl)) ?_
         refine pu (i := 27) (N := some 33) (bl 43 268435455) (any_of HT_.out (by kernel_rfl)) ?_
         refine ta (i := 28) (N := some 34) (bl 43 536870911) (take_ofW HT_.out HW_.out (by kernel_rfl)) hHeld ?_
         refine pu (i := 29) (N := some 35) (bl 43 1073741823) (any_of HT_.out (by kernel_rfl)) ?_
         refine pu (i := 30) (N := some 36) (bl 43 2147483647) (any_of HT_.out (by kernel_rfl)) ?_
         refine pu (i := 31) (N := some 37) (bl 43 4294967295) (any_of HT_.out (by kernel_rfl)) ?_
         refine pu (i := 32) (N := some 38) (bl 43 8589934591) (any_of HT_.out (by kernel_rfl)) ?_
         refine po (i := 33) (N := some 39) (bl 43 17179869183) (any_of HT_.out (by kernel_rfl)) ?_
         refine po (i := 34) (N := some 40) (bl 43 34359738367) (any_of HT_.out (by kernel_rfl)) ?_
         refine po (i := 35) (N := some 41) (bl 43 68719476735) (any_of HT_.out (by kernel_rfl)) ?_
         refine po (i := 36) (N := some 42) (bl 43 137438953471) (any_of HT_.out (by kernel_rfl)) ?_
         refine po (i := 37) (N := some 43) (bl 43 274877906943) (any_of HT_.out (by kernel_rfl)) ?_
         refine po (i := 38) (N := some 44) (bl 43 549755813887) (any_of HT_.out (by kernel_rfl)) ?_
         refine po (i := 39) (N := some 45) (bl 43 1099511627775) (any_of HT_.out (by kernel_rfl)) ?_
         refine po (i := 40) (N := some 46) (bl 43 2199023255551) (any_of HT_.out (by kernel_rfl)) ?_
         refine pu (i := 41) (N := some 47) (bl 43 4398046511103) (any_of HT_.out (by kernel_rfl)) ?_
         refine pu (i := 42) (N := some 0) (bl 43 8796093022207) (any_of HT_.out (by kernel_rfl)) ?_
         refine done_ (done_of HT_.out (by kernel_rfl)) ?_
         try go_wp2
         go_ret
         exact ⟨by first | rfl | (simp [errW_none, errW_some] <;> rfl) | (simp [*, errW_none, errW_some] <;> rfl), by repeat (first | (with_reducible first | exact HB.out | apply below_alloc | apply pw_below_drewN | apply below_drew1) | exact HB.out)⟩
       ·rw [if_neg c9] at H
        have c9b0 : (((rd_T43 t162 2).f1) == 10) = false := beq_eq_false_iff_ne.mpr c9
        have c9b1 : (((rd_T43 t162 2).f1) != 10) = true := bne_iff_ne.mpr c9
        obtain rfl := Option.some.inj H
        go_enter Try.func12, Try.ntmps12
        try go_wp2_with (first | ((with_reducible refine gate_dst (N := 3) rfl ?_); (try (refine gate_guard (by rfl) ?_; dsimp only)); refine Kd.R_lit (Kd.int .i64) _ 3 ?hg (N := 3) ?hd (xs := ([4, 5, 9, 10] : List Int)) (inner := [.int .i64 4, .int .i64 5, .int .i64 9, .int .i64 10]) (ok := fun _ => True) (okp := fun _ => True) ?hr ?hp (fun _ hk => hk) trivial (Below.refl _ _) (Nat.le_refl _) (by simp) ?_; (case hd => rfl); (case hg => rfl); (case hr => first | (go_simp; done) | (go_simp; rfl)); (case hp => exact (Reps.one (show Kd.M (Kd.int .i64) _ _ _ 4 [.int .i64 4] from rfl) (Reps.one (show Kd.M (Kd.int .i64) _ _ _ 5 [.int .i64 5] from rfl) (Reps.one (show Kd.M (Kd.int .i64) _ _ _ 9 [.int .i64 9] from rfl) (Reps.one (show Kd.M (Kd.int .i64) _ _ _ 10 [.int .i64 10] from rfl) (Reps.none _ _)))))); intro v157 w30 ho31 hb hg_ hnew_; clear hg_ hnew_; (first | rw [← Ny156.out] at ho31 | (simp only [Int.reduceToNat] at ho31; rw [← Ny156.out] at ho31)); have n0_ := Aside0.mk (Kd.R_lower ho31 (below_size (by repeat (first | (with_reducible first | exact HB.out | apply below_alloc | apply pw_below_drewN | apply below_drew1) | exact HB.out)))); have n1_ := Aside0.mk (below_step (by repeat (first | (with_reducible first | exact HB.out | apply below_alloc | apply pw_below_drewN | apply below_drew1) | exact HB.out)) hb); clear HB; have HO158 := n0_; have HB := n1_; clear n0_ n1_; clear hb ho31; obtain ⟨Ao32, co32, eo32⟩ := Kd.R_slice HO158.out; subst eo32) | ((with_reducible refine gate_callee (f := 18) rfl ?_); refine goesL_ (some 4) rfl rfl Try.func18 (by kernel_rfl) rfl #[.slice Ao32 y156.length co32] rfl (by (try simp only [List.map_toArray, List.map_cons, List.map_nil]); first | done | rfl | (simp only [List.length_drop, List.length_take]; rfl)) ?_; (with_reducible refine (erasurelaw35_Groups.calls k _ _ y156 t159 _ ?side1 ?side2 A1.out).mono ?_); (case side1 => repeat (first | exact (Kd.R_reads' HO158.out).2.2 | (with_reducible refine Kd.C_alloc ?_ _) | (with_reducible refine Kd.C_drewN ?_ _) | (with_reducible refine Kd.C_drew ?_))); (case side2 => exact (Kd.R_reads' HO158.out).2.1); rintro e w33 ⟨v160, rfl, ho0, hb⟩; refine ⟨_, rfl, ?_⟩; have n0_ := Aside0.mk (Kd.R_below (by (with_reducible repeat (first | apply Kd.R_alloc | apply Kd.R_drewN | apply Kd.R_drew)); exact HO158.out) hb); have n1_ := Aside0.mk (Kd.S_lower ho0 (below_size (by repeat (first | (with_reducible first | exact HB.out | apply below_alloc | apply pw_below_drewN | apply below_drew1) | exact HB.out)))); have n2_ := Aside0.mk (below_step (by repeat (first | (with_reducible first | exact HB.out | apply below_alloc | apply pw_below_drewN | apply below_drew1) | exact HB.out)) hb); clear HO158; clear HB; have HO158 := n0_; have HO161 := n1_; have HB := n2_; clear n0_ n1_ n2_; (try clear hb); (try clear hb2); (try clear hk); (try clear hi); (try clear ho0); obtain ⟨Ao34, co34, eo34⟩ := Kd.S_slice HO161.out; subst eo34) | ((with_reducible refine gate_callee (f := 15) rfl ?_); refine goesL_ (some 5) rfl rfl Try.func15 (by kernel_rfl) rfl #[.agg #[.string (⟨#[]⟩ : ByteArray), .string (⟨#[]⟩ : ByteArray), .int .i64 5], .int .i64 1, .slice Ao34 t159.length co34] rfl (by (try simp only [List.map_toArray, List.map_cons, List.map_nil]); first | done | rfl | (simp only [List.length_drop, List.length_take]; rfl)) ?_; (with_reducible refine (release_Publish.calls k (⟨#[]⟩ : ByteArray) (⟨#[]⟩ : ByteArray) 5 1 _ _ t159 t162 _ ?side1 ?side2 A2.out).mono ?_); (case side1 => repeat (first | exact (Kd.S_reads' HO161.out).2.2 | (with_reducible refine Kd.C_alloc ?_ _) | (with_reducible refine Kd.C_drewN ?_ _) | (with_reducible refine Kd.C_drew ?_))); (case side2 => exact (Kd.S_reads' HO161.out).2.1); rintro e w35 ⟨v163, rfl, ho0, hb⟩; refine ⟨_, rfl, ?_⟩; have n0_ := Aside0.mk (Kd.R_below (by (with_reducible repeat (first | apply Kd.R_alloc | apply Kd.R_drewN | apply Kd.R_drew)); exact HO158.out) hb); have n1_ := Aside0.mk (Kd.S_below (by (with_reducible repeat (first | apply Kd.S_alloc | apply Kd.S_drewN | apply Kd.S_drew)); exact HO161.out) hb); have n2_ := Aside0.mk (Kd.V_lower (Kd.V_mono (ok' := fun k_ => some k_ ≠ (.slice Ao32 y156.length co32 : Value).ownBlock ∧ some k_ ≠ (.slice Ao34 t159.length co34 : Value).ownBlock) ho0 (fun k_ hk_ => ⟨(Kd.fresh' (Kd.R_lt (by (with_reducible repeat (first | apply Kd.R_alloc | apply Kd.R_drewN | apply Kd.R_drew)); exact HO158.out)) k_ hk_), (Kd.fresh' (Kd.S_lt (by (with_reducible repeat (first | apply Kd.S_alloc | apply Kd.S_drewN | apply Kd.S_drew)); exact HO161.out)) k_ hk_)⟩)) (below_size (by repeat (first | (with_reducible first | exact HB.out | apply below_alloc | apply pw_below_drewN | apply below_drew1) | exact HB.out)))); have n3_ := Aside0.mk (below_step (by repeat (first | (with_reducible first | exact HB.out | apply below_alloc | apply pw_below_drewN | apply below_drew1) | exact HB.out)) hb); clear HO158; clear HO161; clear HB; have HO158 := n0_; have HO161 := n1_; have HO164 := n2_; have HB := n3_; clear n0_ n1_ n2_ n3_; (try clear hb); (try clear hb2); (try clear hk); (try clear hi); (try clear ho0)))
        have n0_ := Aside0.mk (Kd.R_drew HO158.out)
        have n1_ := Aside0.mk (Kd.S_drew HO161.out)
        have n2_ := Aside0.mk (Kd.V_drew HO164.out)
        have n3_ := Aside0.mk (below_drew1 HB.out)
        clear HO158
        clear HO161
        clear HO164
        clear HB
        have HO158 := n0_
        have HO161 := n1_
        have HO164 := n2_
        have HB := n3_
        clear n0_ n1_ n2_ n3_
        obtain ⟨Ao37, co37, eo37⟩ := Kd.V_slice HO164.out
        (first | subst eo37 | (injection eo37 with f1_ f2_ f3_; have f4_ := f1_.symm; have f5_ := f3_.symm; clear f1_ f2_ f3_; subst f4_; subst f5_))
        have p165 : 0 ≤ (0 : Int) := (by omega)
        have q165 : 0 < (t162.length : Int) := of_decide_eq_true (by first | (with_reducible assumption) | assumption)
        obtain ⟨ad165, A165_0, c165_0, e165, hx165_0, hx165_1, hl165_0, hi165_0⟩ := at_T43 (Kd.V_reads' HO164.out).2.2 0 p165 q165
        cases e165
        obtain ⟨ce165, hce165, hMe165, hcc165⟩ := Kd.V_get HO164.out z43 0 p165 (by first | exact q165 | exact of_decide_eq_true (by first | (with_reducible assumption) | assumption) | (have e_ := (Kd.V_reads' HO164.out).1; omega))
        obtain ⟨ua165_0, uc165_0, rfl, ul165_0, ge165_0⟩ := k43_openF hMe165
        have hv165_0 := hcc165 0 _ rfl
        rw [Nat.add_zero] at hv165_0
        replace hv165_0 := Option.some.inj (hv165_0.symm.trans hx165_0)
        injection hv165_0 with hva_ hvn_ hvc_
        rw [hva_] at ge165_0
        rw [hvc_] at ul165_0
        have HL165_0 := Aside0.mk (show Kd.V k38 38 _ w.heap.size _ _ ((rd_T43 t162 0).f0) from Kd.V_mk ul165_0 ge165_0)
        clear hva_ hvn_ hvc_ ge165_0 ul165_0
        clear hcc165 hce165
        have qi165 : (0 < t162.length) = True := eq_true (by omega)
        (try rw [show ((0 : Int)).toNat = 0 from rfl] at hx165_0)
        (try rw [show 0 * 2 = 0 from rfl] at hx165_0)
        (try rw [Addr.add_zero'] at hx165_0)
        (try rw [show ((0 : Int)).toNat = 0 from rfl] at hx165_1)
        (try rw [show 0 * 2 = 0 from rfl] at hx165_1)
        (try rw [Addr.add_zero'] at hx165_1)
        have HR165_0 := Aside0.mk hi165_0
        have HC165_0 := Aside0.mk hl165_0
        clear hi165_0 hl165_0
        replace p165 := eq_true p165
        replace q165 := eq_true q165
        have p166 : 0 ≤ (1 : Int) := (by omega)
        have q166 : 1 < (t162.length : Int) := of_decide_eq_true (by first | (with_reducible assumption) | assumption)
        obtain ⟨ad166, A166_0, c166_0, e166, hx166_0, hx166_1, hl166_0, hi166_0⟩ := at_T43 (Kd.V_reads' HO164.out).2.2 1 p166 q166
        obtain rfl : ad165 = ad166 := (by injection e166)
        obtain ⟨ce166, hce166, hMe166, hcc166⟩ := Kd.V_get HO164.out z43 1 p166 (by first | exact q166 | exact of_decide_eq_true (by first | (with_reducible assumption) | assumption) | (have e_ := (Kd.V_reads' HO164.out).1; omega))
        obtain ⟨ua166_0, uc166_0, rfl, ul166_0, ge166_0⟩ := k43_openF hMe166
        have hv166_0 := hcc166 0 _ rfl
        rw [Nat.add_zero] at hv166_0
        replace hv166_0 := Option.some.inj (hv166_0.symm.trans hx166_0)
        injection hv166_0 with hva_ hvn_ hvc_
        rw [hva_] at ge166_0
        rw [hvc_] at ul166_0
        have HL166_0 := Aside0.mk (show Kd.V k38 38 _ w.heap.size _ _ ((rd_T43 t162 1).f0) from Kd.V_mk ul166_0 ge166_0)
        clear hva_ hvn_ hvc_ ge166_0 ul166_0
        clear hcc166 hce166
        (try simp only [show (1 : Int).toNat = 1 from rfl, Nat.reduceMul, Nat.reduceEqDiff, Go.Addr.add, ↓reduceIte] at hx166_0)
        (try simp only [show (1 : Int).toNat = 1 from rfl, Nat.reduceMul, Nat.reduceEqDiff, Go.Addr.add, ↓reduceIte] at hx166_1)
        have qi166 : (1 < t162.length) = True := eq_true (by omega)
        (try rw [show ((1 : Int)).toNat = 1 from rfl] at hx166_0)
        (try rw [show 1 * 2 = 2 from rfl] at hx166_0)
        (try rw [show ((1 : Int)).toNat = 1 from rfl] at hx166_1)
        (try rw [show 1 * 2 = 2 from rfl] at hx166_1)
        have HR166_0 := Aside0.mk hi166_0
        have HC166_0 := Aside0.mk hl166_0
        clear hi166_0 hl166_0
        replace p166 := eq_true p166
        replace q166 := eq_true q166
        have p167 : 0 ≤ (2 : Int) := (by omega)
        have q167 : 2 < (t162.length : Int) := of_decide_eq_true (by first | (with_reducible assumption) | assumption)
        obtain ⟨ad167, A167_0, c167_0, e167, hx167_0, hx167_1, hl167_0, hi167_0⟩ := at_T43 (Kd.V_reads' HO164.out).2.2 2 p167 q167
        obtain rfl : ad165 = ad167 := (by injection e167)
        obtain ⟨ce167, hce167, hMe167, hcc167⟩ := Kd.V_get HO164.out z43 2 p167 (by first | exact q167 | exact of_decide_eq_true (by first | (with_reducible assumption) | assumption) | (have e_ := (Kd.V_reads' HO164.out).1; omega))
        obtain ⟨ua167_0, uc167_0, rfl, ul167_0, ge167_0⟩ := k43_openF hMe167
        have hv167_0 := hcc167 0 _ rfl
        rw [Nat.add_zero] at hv167_0
        replace hv167_0 := Option.some.inj (hv167_0.symm.trans hx167_0)
        injection hv167_0 with hva_ hvn_ hvc_
        rw [hva_] at ge167_0
        rw [hvc_] at ul167_0
        have HL167_0 := Aside0.mk (show Kd.V k38 38 _ w.heap.size _ _ ((rd_T43 t162 2).f0) from Kd.V_mk ul167_0 ge167_0)
        clear hva_ hvn_ hvc_ ge167_0 ul167_0
        clear hcc167 hce167
        (try simp only [show (2 : Int).toNat = 2 from rfl, Nat.reduceMul, Nat.reduceEqDiff, Go.Addr.add, ↓reduceIte] at hx167_0)
        (try simp only [show (2 : Int).toNat = 2 from rfl, Nat.reduceMul, Nat.reduceEqDiff, Go.Addr.add, ↓reduceIte] at hx167_1)
        have qi167 : (2 < t162.length) = True := eq_true (by omega)
        (try rw [show ((2 : Int)).toNat = 2 from rfl] at hx167_0)
        (try rw [show 2 * 2 = 4 from rfl] at hx167_0)
        (try rw [show ((2 : Int)).toNat = 2 from rfl] at hx167_1)
        (try rw [show 2 * 2 = 4 from rfl] at hx167_1)
        have HR167_0 := Aside0.mk hi167_0
        have HC167_0 := Aside0.mk hl167_0
        clear hi167_0 hl167_0
        replace p167 := eq_true p167
        replace q167 := eq_true q167
        refine start_ (n := 43) (S := fun w' => w'.cell? ad165 = some (.slice A165_0 ((rd_T43 t162 0).f0).length c165_0) ∧ w'.cell? ⟨ad165.block, ad165.off + 1, none⟩ = some (.int .i64 ((rd_T43 t162 0).f1)) ∧ w'.cell? ⟨ad165.block, ad165.off + 2, none⟩ = some (.slice A166_0 ((rd_T43 t162 1).f0).length c166_0) ∧ w'.cell? ⟨ad165.block, ad165.off + 2 + 1, none⟩ = some (.int .i64 ((rd_T43 t162 1).f1)) ∧ w'.cell? ⟨ad165.block, ad165.off + 4, none⟩ = some (.slice A167_0 ((rd_T43 t162 2).f0).length c167_0) ∧ w'.cell? ⟨ad165.block, ad165.off + 4 + 1, none⟩ = some (.int .i64 ((rd_T43 t162 2).f1))) (ds := []) #[false, false, false, false, false, false, false, false, false, false, false, false, false, false, false, false, false, false, false, false, false, false, false, false, false, false, false, false, false, false, false, false, false, false, false, false, false, false, false, false, false, false, false] (by kernel_rfl) rfl rfl ⟨hx165_0, hx165_1, hx166_0, hx166_1, hx167_0, hx167_1⟩ (fun hHeld => ?_); refine with_tabW erasurelaw35_awake.tab2 erasurelaw35_awake.bits2 (fun HT_ HW_ => ?_)
        generalize w35.drew = w36 at HO158 HO161 HO164 HB HL165_0 HL166_0 HL167_0 HR165_0 HR166_0 HR167_0 hx165_0 hx165_1 hx166_0 hx166_1 hx167_0 hx167_1 hHeld ⊢
        refine pu (i := 0) (N := some 6) (bl 43 1) (any_of HT_.out (by kernel_rfl)) ?_
        refine pu (i := 1) (N := some 7) (bl 43 3) (any_of HT_.out (by kernel_rfl)) ?_
        refine pu (i := 2) (N := some 8) (bl 43 7) (any_of HT_.out (by kernel_rfl)) ?_
        refine pu (i := 3) (N := some 9) (bl 43 15) (any_of HT_.out (by kernel_rfl)) ?_
        refine pu (i := 4) (N := some 10) (bl 43 31) (any_of HT_.out (by kernel_rfl)) ?_
        refine pu (i := 5) (N := some 11) (bl 43 63) (any_of HT_.out (by kernel_rfl)) ?_
        refine pu (i := 6) (N := some 12) (bl 43 127) (any_of HT_.out (by kernel_rfl)) ?_
        refine ta (i := 7) (N := some 13) (bl 43 255) (take_ofW HT_.out HW_.out (by kernel_rfl)) hHeld ?_
        refine pu (i := 8) (N := some 14) (bl 43 511) (any_of HT_.out (by kernel_rfl)) ?_
        refine pu (i := 9) (N := some 15) (bl 43 1023) (any_of HT_.out (by kernel_rfl)) ?_
        refine pu (i := 10) (N := some 16) (bl 43 2047) (any_of HT_.out (by kernel_rfl)) ?_
        refine pu (i := 11) (N := some 17) (bl 43 4095) (any_of HT_.out (by kernel_rfl)) ?_
        refine pu (i := 12) (N := some 18) (bl 43 8191) (any_of HT_.out (by kernel_rfl)) ?_
        refine pu (i := 13) (N := some 19) (bl 43 16383) (any_of HT_.out (by kernel_rfl)) ?_
        refine ta (i := 14) (N := some 20) (bl 43 32767) (take_ofW HT_.out HW_.out (by kernel_rfl)) hHeld ?_
        refine pu (i := 15) (N := some 21) (bl 43 65535) (any_of HT_.out (by kernel_rfl)) ?_
        refine pu (i := 16) (N := some 22) (bl 43 131071) (any_of HT_.out (by kernel_rfl)) ?_
        refine pu (i := 17) (N := some 23) (bl 43 262143) (any_of HT_.out (by kernel_rfl)) ?_
        refine pu (i := 18) (N := some 24) (bl 43 524287) (any_of HT_.out (by kernel_rfl)) ?_
        refine pu (i := 19) (N := some 25) (bl 43 1048575) (any_of HT_.out (by kernel_rfl)) ?_
        refine pu (i := 20) (N := some 26) (bl 43 2097151) (any_of HT_.out (by kernel_rfl)) ?_
        refine ta (i := 21) (N := some 27) (bl 43 4194303) (take_ofW HT_.out HW_.out (by kernel_rfl)) hHeld ?_
        refine pu (i := 22) (N := some 28) (bl 43 8388607) (any_of HT_.out (by kernel_rfl)) ?_
        refine pu (i := 23) (N := some 29) (bl 43 16777215) (any_of HT_.out (by kernel_rfl)) ?_
        refine pu (i := 24) (N := some 30) (bl 43 33554431) (any_of HT_.out (by kernel_rfl)) ?_
        refine po (i := 25) (N := some 31) (bl 43 67108863) (any_of HT_.out (by kernel_rfl)) ?_
        refine po (i := 26) (N := some 32) (bl 43 134217727) (any_of HT_.out (by kernel_rfl)) ?_
        refine po (i := 27) (N := some 33) (bl 43 268435455) (any_of HT_.out (by kernel_rfl)) ?_
        refine po (i := 28) (N := some 34) (bl 43 536870911) (any_of HT_.out (by kernel_rfl)) ?_
        refine po (i := 29) (N := some 35) (bl 43 1073741823) (any_of HT_.out (by kernel_rfl)) ?_
        refine po (i := 30) (N := some 36) (bl 43 2147483647) (any_of HT_.out (by kernel_rfl)) ?_
        refine pu (i := 31) (N := some 37) (bl 43 4294967295) (any_of HT_.out (by kernel_rfl)) ?_
        refine pu (i := 32) (N := some 38) (bl 43 8589934591) (any_of HT_.out (by kernel_rfl)) ?_
        refine po (i := 33) (N := some 39) (bl 43 17179869183) (any_of HT_.out (by kernel_rfl)) ?_
        refine po (i := 34) (N := some 40) (bl 43 34359738367) (any_of HT_.out (by kernel_rfl)) ?_
        refine po (i := 35) (N := some 41) (bl 43 68719476735) (any_of HT_.out (by kernel_rfl)) ?_
        refine po (i := 36) (N := some 42) (bl 43 137438953471) (any_of HT_.out (by kernel_rfl)) ?_
        refine po (i := 37) (N := some 43) (bl 43 274877906943) (any_of HT_.out (by kernel_rfl)) ?_
        refine po (i := 38) (N := some 44) (bl 43 549755813887) (any_of HT_.out (by kernel_rfl)) ?_
        refine po (i := 39) (N := some 45) (bl 43 1099511627775) (any_of HT_.out (by kernel_rfl)) ?_
        refine po (i := 40) (N := some 46) (bl 43 2199023255551) (any_of HT_.out (by kernel_rfl)) ?_
        refine pu (i := 41) (N := some 47) (bl 43 4398046511103) (any_of HT_.out (by kernel_rfl)) ?_
        refine pu (i := 42) (N := some 0) (bl 43 8796093022207) (any_of HT_.out (by kernel_rfl)) ?_
        refine done_ (done_of HT_.out (by kernel_rfl)) ?_
        try go_wp2
        go_ret
        exact ⟨by first | rfl | (simp [errW_none, errW_some] <;> rfl) | (simp [*, errW_none, errW_some] <;> rfl), by repeat (first | (with_reducible first | exact HB.out | apply below_alloc | apply pw_below_drewN | apply below_drew1) | exact HB.out)⟩
      ·rw [if_neg c8] at H
       exact absurd H (by simp)
     ·rw [if_neg c7] at H
      have c7b0 : (((rd_T43 t162 1).f1) == 5) = false := beq_eq_false_iff_ne.mpr c7
      have c7b1 : (((rd_T43 t162 1).f1) != 5) = true := bne_iff_ne.mpr c7
      obtain rfl := Option.some.inj H
      go_enter Try.func12, Try.ntmps12
      try go_wp2_with (first | ((with_reducible refine gate_dst (N := 3) rfl ?_); (try (refine gate_guard (by rfl) ?_; dsimp only)); refine Kd.R_lit (Kd.int .i64) _ 3 ?hg (N := 3) ?hd (xs := ([4, 5, 9, 10] : List Int)) (inner := [.int .i64 4, .int .i64 5, .int .i64 9, .int .i64 10]) (ok := fun _ => True) (okp := fun _ => True) ?hr ?hp (fun _ hk => hk) trivial (Below.refl _ _) (Nat.le_refl _) (by simp) ?_; (case hd => rfl); (case hg => rfl); (case hr => first | (go_simp; done) | (go_simp; rfl)); (case hp => exact (Reps.one (show Kd.M (Kd.int .i64) _ _ _ 4 [.int .i64 4] from rfl) (Reps.one (show Kd.M (Kd.int .i64) _ _ _ 5 [.int .i64 5] from rfl) (Reps.one (show Kd.M (Kd.int .i64) _ _ _ 9 [.int .i64 9] from rfl) (Reps.one (show Kd.M (Kd.int .i64) _ _ _ 10 [.int .i64 10] from rfl) (Reps.none _ _)))))); intro v157 w38 ho39 hb hg_ hnew_; clear hg_ hnew_; (first | rw [← Ny156.out] at ho39 | (simp only [Int.reduceToNat] at ho39; rw [← Ny156.out] at ho39)); have n0_ := Aside0.mk (Kd.R_lower ho39 (below_size (by repeat (first | (with_reducible first | exact HB.out | apply below_alloc | apply pw_below_drewN | apply below_drew1) | exact HB.out)))); have n1_ := Aside0.mk (below_step (by repeat (first | (with_reducible first | exact HB.out | apply below_alloc | apply pw_below_drewN | apply below_drew1) | exact HB.out)) hb); clear HB; have HO158 := n0_; have HB := n1_; clear n0_ n1_; clear hb ho39; obtain ⟨Ao40, co40, eo40⟩ := Kd.R_slice HO158.out; subst eo40) | ((with_reducible refine gate_callee (f := 18) rfl ?_); refine goesL_ (some 4) rfl rfl Try.func18 (by kernel_rfl) rfl #[.slice Ao40 y156.length co40] rfl (by (try simp only [List.map_toArray, List.map_cons, List.map_nil]); first | done | rfl | (simp only [List.length_drop, List.length_take]; rfl)) ?_; (with_reducible refine (erasurelaw35_Groups.calls k _ _ y156 t159 _ ?side1 ?side2 A1.out).mono ?_); (case side1 => repeat (first | exact (Kd.R_reads' HO158.out).2.2 | (with_reducible refine Kd.C_alloc ?_ _) | (with_reducible refine Kd.C_drewN ?_ _) | (with_reducible refine Kd.C_drew ?_))); (case side2 => exact (Kd.R_reads' HO158.out).2.1); rintro e w41 ⟨v160, rfl, ho0, hb⟩; refine ⟨_, rfl, ?_⟩; have n0_ := Aside0.mk (Kd.R_below (by (with_reducible repeat (first | apply Kd.R_alloc | apply Kd.R_drewN | apply Kd.R_drew)); exact HO158.out) hb); have n1_ := Aside0.mk (Kd.S_lower ho0 (below_size (by repeat (first | (with_reducible first | exact HB.out | apply below_alloc | apply pw_below_drewN | apply below_drew1) | exact HB.out)))); have n2_ := Aside0.mk (below_step (by repeat (first | (with_reducible first | exact HB.out | apply below_alloc | apply pw_below_drewN | apply below_drew1) | exact HB.out)) hb); clear HO158; clear HB; have HO158 := n0_; have HO161 := n1_; have HB := n2_; clear n0_ n1_ n2_; (try clear hb); (try clear hb2); (try clear hk); (try clear hi); (try clear ho0); obtain ⟨Ao42, co42, eo42⟩ := Kd.S_slice HO161.out; subst eo42) | ((with_reducible refine gate_callee (f := 15) rfl ?_); refine goesL_ (some 5) rfl rfl Try.func15 (by kernel_rfl) rfl #[.agg #[.string (⟨#[]⟩ : ByteArray), .string (⟨#[]⟩ : ByteArray), .int .i64 5], .int .i64 1, .slice Ao42 t159.length co42] rfl (by (try simp only [List.map_toArray, List.map_cons, List.map_nil]); first | done | rfl | (simp only [List.length_drop, List.length_take]; rfl)) ?_; (with_reducible refine (release_Publish.calls k (⟨#[]⟩ : ByteArray) (⟨#[]⟩ : ByteArray) 5 1 _ _ t159 t162 _ ?side1 ?side2 A2.out).mono ?_); (case side1 => repeat (first | exact (Kd.S_reads' HO161.out).2.2 | (with_reducible refine Kd.C_alloc ?_ _) | (with_reducible refine Kd.C_drewN ?_ _) | (with_reducible refine Kd.C_drew ?_))); (case side2 => exact (Kd.S_reads' HO161.out).2.1); rintro e w43 ⟨v163, rfl, ho0, hb⟩; refine ⟨_, rfl, ?_⟩; have n0_ := Aside0.mk (Kd.R_below (by (with_reducible repeat (first | apply Kd.R_alloc | apply Kd.R_drewN | apply Kd.R_drew)); exact HO158.out) hb); have n1_ := Aside0.mk (Kd.S_below (by (with_reducible repeat (first | apply Kd.S_alloc | apply Kd.S_drewN | apply Kd.S_drew)); exact HO161.out) hb); have n2_ := Aside0.mk (Kd.V_lower (Kd.V_mono (ok' := fun k_ => some k_ ≠ (.slice Ao40 y156.length co40 : Value).ownBlock ∧ some k_ ≠ (.slice Ao42 t159.length co42 : Value).ownBlock) ho0 (fun k_ hk_ => ⟨(Kd.fresh' (Kd.R_lt (by (with_reducible repeat (first | apply Kd.R_alloc | apply Kd.R_drewN | apply Kd.R_drew)); exact HO158.out)) k_ hk_), (Kd.fresh' (Kd.S_lt (by (with_reducible repeat (first | apply Kd.S_alloc | apply Kd.S_drewN | apply Kd.S_drew)); exact HO161.out)) k_ hk_)⟩)) (below_size (by repeat (first | (with_reducible first | exact HB.out | apply below_alloc | apply pw_below_drewN | apply below_drew1) | exact HB.out)))); have n3_ := Aside0.mk (below_step (by repeat (first | (with_reducible first | exact HB.out | apply below_alloc | apply pw_below_drewN | apply below_drew1) | exact HB.out)) hb); clear HO158; clear HO161; clear HB; have HO158 := n0_; have HO161 := n1_; have HO164 := n2_; have HB := n3_; clear n0_ n1_ n2_ n3_; (try clear hb); (try clear hb2); (try clear hk); (try clear hi); (try clear ho0)))
      have n0_ := Aside0.mk (Kd.R_drew HO158.out)
      have n1_ := Aside0.mk (Kd.S_drew HO161.out)
      have n2_ := Aside0.mk (Kd.V_drew HO164.out)
      have n3_ := Aside0.mk (below_drew1 HB.out)
      clear HO158
      clear HO161
      clear HO164
      clear HB
      have HO158 := n0_
      have HO161 := n1_
      have HO164 := n2_
      have HB := n3_
      clear n0_ n1_ n2_ n3_
      obtain ⟨Ao45, co45, eo45⟩ := Kd.V_slice HO164.out
      (first | subst eo45 | (injection eo45 with f1_ f2_ f3_; have f4_ := f1_.symm; have f5_ := f3_.symm; clear f1_ f2_ f3_; subst f4_; subst f5_))
      have p165 : 0 ≤ (0 : Int) := (by omega)
      have q165 : 0 < (t162.length : Int) := of_decide_eq_true (by first | (with_reducible assumption) | assumption)
      obtain ⟨ad165, A165_0, c165_0, e165, hx165_0, hx165_1, hl165_0, hi165_0⟩ := at_T43 (Kd.V_reads' HO164.out).2.2 0 p165 q165
      cases e165
      obtain ⟨ce165, hce165, hMe165, hcc165⟩ := Kd.V_get HO164.out z43 0 p165 (by first | exact q165 | exact of_decide_eq_true (by first | (with_reducible assumption) | assumption) | (have e_ := (Kd.V_reads' HO164.out).1; omega))
      obtain ⟨ua165_0, uc165_0, rfl, ul165_0, ge165_0⟩ := k43_openF hMe165
      have hv165_0 := hcc165 0 _ rfl
      rw [Nat.add_zero] at hv165_0
      replace hv165_0 := Option.some.inj (hv165_0.symm.trans hx165_0)
      injection hv165_0 with hva_ hvn_ hvc_
      rw [hva_] at ge165_0
      rw [hvc_] at ul165_0
      have HL165_0 := Aside0.mk (show Kd.V k38 38 _ w.heap.size _ _ ((rd_T43 t162 0).f0) from Kd.V_mk ul165_0 ge165_0)
      clear hva_ hvn_ hvc_ ge165_0 ul165_0
      clear hcc165 hce165
      have qi165 : (0 < t162.length) = True := eq_true (by omega)
      (try rw [show ((0 : Int)).toNat = 0 from rfl] at hx165_0)
      (try rw [show 0 * 2 = 0 from rfl] at hx165_0)
      (try rw [Addr.add_zero'] at hx165_0)
      (try rw [show ((0 : Int)).toNat = 0 from rfl] at hx165_1)
      (try rw [show 0 * 2 = 0 from rfl] at hx165_1)
      (try rw [Addr.add_zero'] at hx165_1)
      have HR165_0 := Aside0.mk hi165_0
      have HC165_0 := Aside0.mk hl165_0
      clear hi165_0 hl165_0
      replace p165 := eq_true p165
      replace q165 := eq_true q165
      have p166 : 0 ≤ (1 : Int) := (by omega)
      have q166 : 1 < (t162.length : Int) := of_decide_eq_true (by first | (with_reducible assumption) | assumption)
      obtain ⟨ad166, A166_0, c166_0, e166, hx166_0, hx166_1, hl166_0, hi166_0⟩ := at_T43 (Kd.V_reads' HO164.out).2.2 1 p166 q166
      obtain rfl : ad165 = ad166 := (by injection e166)
      obtain ⟨ce166, hce166, hMe166, hcc166⟩ := Kd.V_get HO164.out z43 1 p166 (by first | exact q166 | exact of_decide_eq_true (by first | (with_reducible assumption) | assumption) | (have e_ := (Kd.V_reads' HO164.out).1; omega))
      obtain ⟨ua166_0, uc166_0, rfl, ul166_0, ge166_0⟩ := k43_openF hMe166
      have hv166_0 := hcc166 0 _ rfl
      rw [Nat.add_zero] at hv166_0
      replace hv166_0 := Option.some.inj (hv166_0.symm.trans hx166_0)
      injection hv166_0 with hva_ hvn_ hvc_
      rw [hva_] at ge166_0
      rw [hvc_] at ul166_0
      have HL166_0 := Aside0.mk (show Kd.V k38 38 _ w.heap.size _ _ ((rd_T43 t162 1).f0) from Kd.V_mk ul166_0 ge166_0)
      clear hva_ hvn_ hvc_ ge166_0 ul166_0
      clear hcc166 hce166
      (try simp only [show (1 : Int).toNat = 1 from rfl, Nat.reduceMul, Nat.reduceEqDiff, Go.Addr.add, ↓reduceIte] at hx166_0)
      (try simp only [show (1 : Int).toNat = 1 from rfl, Nat.reduceMul, Nat.reduceEqDiff, Go.Addr.add, ↓reduceIte] at hx166_1)
      have qi166 : (1 < t162.length) = True := eq_true (by omega)
      (try rw [show ((1 : Int)).toNat = 1 from rfl] at hx166_0)
      (try rw [show 1 * 2 = 2 from rfl] at hx166_0)
      (try rw [show ((1 : Int)).toNat = 1 from rfl] at hx166_1)
      (try rw [show 1 * 2 = 2 from rfl] at hx166_1)
      have HR166_0 := Aside0.mk hi166_0
      have HC166_0 := Aside0.mk hl166_0
      clear hi166_0 hl166_0
      replace p166 := eq_true p166
      replace q166 := eq_true q166
      refine start_ (n := 43) (S := fun w' => w'.cell? ad165 = some (.slice A165_0 ((rd_T43 t162 0).f0).length c165_0) ∧ w'.cell? ⟨ad165.block, ad165.off + 1, none⟩ = some (.int .i64 ((rd_T43 t162 0).f1)) ∧ w'.cell? ⟨ad165.block, ad165.off + 2, none⟩ = some (.slice A166_0 ((rd_T43 t162 1).f0).length c166_0) ∧ w'.cell? ⟨ad165.block, ad165.off + 2 + 1, none⟩ = some (.int .i64 ((rd_T43 t162 1).f1))) (ds := []) #[false, false, false, false, false, false, false, false, false, false, false, false, false, false, false, false, false, false, false, false, false, false, false, false, false, false, false, false, false, false, false, false, false, false, false, false, false, false, false, false, false, false, false] (by kernel_rfl) rfl rfl ⟨hx165_0, hx165_1, hx166_0, hx166_1⟩ (fun hHeld => ?_); refine with_tabW erasurelaw35_awake.tab2 erasurelaw35_awake.bits2 (fun HT_ HW_ => ?_)
      generalize w43.drew = w44 at HO158 HO161 HO164 HB HL165_0 HL166_0 HR165_0 HR166_0 hx165_0 hx165_1 hx166_0 hx166_1 hHeld ⊢
      refine pu (i := 0) (N := some 6) (bl 43 1) (any_of HT_.out (by kernel_rfl)) ?_
      refine pu (i := 1) (N := some 7) (bl 43 3) (any_of HT_.out (by kernel_rfl)) ?_
      refine pu (i := 2) (N := some 8) (bl 43 7) (any_of HT_.out (by kernel_rfl)) ?_
      refine pu (i := 3) (N := some 9) (bl 43 15) (any_of HT_.out (by kernel_rfl)) ?_
      refine pu (i := 4) (N := some 10) (bl 43 31) (any_of HT_.out (by kernel_rfl)) ?_
      refine pu (i := 5) (N := some 11) (bl 43 63) (any_of HT_.out (by kernel_rfl)) ?_
      refine pu (i := 6) (N := some 12) (bl 43 127) (any_of HT_.out (by kernel_rfl)) ?_
      refine ta (i := 7) (N := some 13) (bl 43 255) (take_ofW HT_.out HW_.out (by kernel_rfl)) hHeld ?_
      refine pu (i := 8) (N := some 14) (bl 43 511) (any_of HT_.out (by kernel_rfl)) ?_
      refine pu (i := 9) (N := some 15) (bl 43 1023) (any_of HT_.out (by kernel_rfl)) ?_
      refine pu (i := 10) (N := some 16) (bl 43 2047) (any_of HT_.out (by kernel_rfl)) ?_
      refine pu (i := 11) (N := some 17) (bl 43 4095) (any_of HT_.out (by kernel_rfl)) ?_
      refine pu (i := 12) (N := some 18) (bl 43 8191) (any_of HT_.out (by kernel_rfl)) ?_
      refine pu (i := 13) (N := some 19) (bl 43 16383) (any_of HT_.out (by kernel_rfl)) ?_
      refine ta (i := 14) (N := some 20) (bl 43 32767) (take_ofW HT_.out HW_.out (by kernel_rfl)) hHeld ?_
      refine pu (i := 15) (N := some 21) (bl 43 65535) (any_of HT_.out (by kernel_rfl)) ?_
      refine pu (i := 16) (N := some 22) (bl 43 131071) (any_of HT_.out (by kernel_rfl)) ?_
      refine pu (i := 17) (N := some 23) (bl 43 262143) (any_of HT_.out (by kernel_rfl)) ?_
      refine po (i := 18) (N := some 24) (bl 43 524287) (any_of HT_.out (by kernel_rfl)) ?_
      refine po (i := 19) (N := some 25) (bl 43 1048575) (any_of HT_.out (by kernel_rfl)) ?_
      refine po (i := 20) (N := some 26) (bl 43 2097151) (any_of HT_.out (by kernel_rfl)) ?_
      refine po (i := 21) (N := some 27) (bl 43 4194303) (any_of HT_.out (by kernel_rfl)) ?_
      refine po (i := 22) (N := some 28) (bl 43 8388607) (any_of HT_.out (by kernel_rfl)) ?_
      refine pu (i := 23) (N := some 29) (bl 43 16777215) (any_of HT_.out (by kernel_rfl)) ?_
      refine pu (i := 24) (N := some 30) (bl 43 33554431) (any_of HT_.out (by kernel_rfl)) ?_
      refine po (i := 25) (N := some 31) (bl 43 67108863) (any_of HT_.out (by kernel_rfl)) ?_
      refine po (i := 26) (N := some 32) (bl 43 134217727) (any_of HT_.out (by kernel_rfl)) ?_
      refine po (i := 27) (N := some 33) (bl 43 268435455) (any_of HT_.out (by kernel_rfl)) ?_
      refine po (i := 28) (N := some 34) (bl 43 536870911) (any_of HT_.out (by kernel_rfl)) ?_
      refine po (i := 29) (N := some 35) (bl 43 1073741823) (any_of HT_.out (by kernel_rfl)) ?_
      refine po (i := 30) (N := some 36) (bl 43 2147483647) (any_of HT_.out (by kernel_rfl)) ?_
      refine pu (i := 31) (N := some 37) (bl 43 4294967295) (any_of HT_.out (by kernel_rfl)) ?_
      refine pu (i := 32) (N := some 38) (bl 43 8589934591) (any_of HT_.out (by kernel_rfl)) ?_
      refine po (i := 33) (N := some 39) (bl 43 17179869183) (any_of HT_.out (by kernel_rfl)) ?_
      refine po (i := 34) (N := some 40) (bl 43 34359738367) (any_of HT_.out (by kernel_rfl)) ?_
      refine po (i := 35) (N := some 41) (bl 43 68719476735) (any_of HT_.out (by kernel_rfl)) ?_
      refine po (i := 36) (N := some 42) (bl 43 137438953471) (any_of HT_.out (by kernel_rfl)) ?_
      refine po (i := 37) (N := some 43) (bl 43 274877906943) (any_of HT_.out (by kernel_rfl)) ?_
      refine po (i := 38) (N := some 44) (bl 43 549755813887) (any_of HT_.out (by kernel_rfl)) ?_
      refine po (i := 39) (N := some 45) (bl 43 1099511627775) (any_of HT_.out (by kernel_rfl)) ?_
      refine po (i := 40) (N := some 46) (bl 43 2199023255551) (any_of HT_.out (by kernel_rfl)) ?_
      refine pu (i := 41) (N := some 47) (bl 43 4398046511103) (any_of HT_.out (by kernel_rfl)) ?_
      refine pu (i := 42) (N := some 0) (bl 43 8796093022207) (any_of HT_.out (by kernel_rfl)) ?_
      refine done_ (done_of HT_.out (by kernel_rfl)) ?_
      try go_wp2
      go_ret
      exact ⟨by first | rfl | (simp [errW_none, errW_some] <;> rfl) | (simp [*, errW_none, errW_some] <;> rfl), by repeat (first | (with_reducible first | exact HB.out | apply below_alloc | apply pw_below_drewN | apply below_drew1) | exact HB.out)⟩
    ·rw [if_neg c6] at H
     exact absurd H (by simp)
   ·rw [if_neg c5] at H
    have c5b0 : (((rd_T43 t162 0).f1) == 5) = false := beq_eq_false_iff_ne.mpr c5
    have c5b1 : (((rd_T43 t162 0).f1) != 5) = true := bne_iff_ne.mpr c5
    obtain rfl := Option.some.inj H
    go_enter Try.func12, Try.ntmps12
    try go_wp2_with (first | ((with_reducible refine gate_dst (N := 3) rfl ?_); (try (refine gate_guard (by rfl) ?_; dsimp only)); refine Kd.R_lit (Kd.int .i64) _ 3 ?hg (N := 3) ?hd (xs := ([4, 5, 9, 10] : List Int)) (inner := [.int .i64 4, .int .i64 5, .int .i64 9, .int .i64 10]) (ok := fun _ => True) (okp := fun _ => True) ?hr ?hp (fun _ hk => hk) trivial (Below.refl _ _) (Nat.le_refl _) (by simp) ?_; (case hd => rfl); (case hg => rfl); (case hr => first | (go_simp; done) | (go_simp; rfl)); (case hp => exact (Reps.one (show Kd.M (Kd.int .i64) _ _ _ 4 [.int .i64 4] from rfl) (Reps.one (show Kd.M (Kd.int .i64) _ _ _ 5 [.int .i64 5] from rfl) (Reps.one (show Kd.M (Kd.int .i64) _ _ _ 9 [.int .i64 9] from rfl) (Reps.one (show Kd.M (Kd.int .i64) _ _ _ 10 [.int .i64 10] from rfl) (Reps.none _ _)))))); intro v157 w46 ho47 hb hg_ hnew_; clear hg_ hnew_; (first | rw [← Ny156.out] at ho47 | (simp only [Int.reduceToNat] at ho47; rw [← Ny156.out] at ho47)); have n0_ := Aside0.mk (Kd.R_lower ho47 (below_size (by repeat (first | (with_reducible first | exact HB.out | apply below_alloc | apply pw_below_drewN | apply below_drew1) | exact HB.out)))); have n1_ := Aside0.mk (below_step (by repeat (first | (with_reducible first | exact HB.out | apply below_alloc | apply pw_below_drewN | apply below_drew1) | exact HB.out)) hb); clear HB; have HO158 := n0_; have HB := n1_; clear n0_ n1_; clear hb ho47; obtain ⟨Ao48, co48, eo48⟩ := Kd.R_slice HO158.out; subst eo48) | ((with_reducible refine gate_callee (f := 18) rfl ?_); refine goesL_ (some 4) rfl rfl Try.func18 (by kernel_rfl) rfl #[.slice Ao48 y156.length co48] rfl (by (try simp only [List.map_toArray, List.map_cons, List.map_nil]); first | done | rfl | (simp only [List.length_drop, List.length_take]; rfl)) ?_; (with_reducible refine (erasurelaw35_Groups.calls k _ _ y156 t159 _ ?side1 ?side2 A1.out).mono ?_); (case side1 => repeat (first | exact (Kd.R_reads' HO158.out).2.2 | (with_reducible refine Kd.C_alloc ?_ _) | (with_reducible refine Kd.C_drewN ?_ _) | (with_reducible refine Kd.C_drew ?_))); (case side2 => exact (Kd.R_reads' HO158.out).2.1); rintro e w49 ⟨v160, rfl, ho0, hb⟩; refine ⟨_, rfl, ?_⟩; have n0_ := Aside0.mk (Kd.R_below (by (with_reducible repeat (first | apply Kd.R_alloc | apply Kd.R_drewN | apply Kd.R_drew)); exact HO158.out) hb); have n1_ := Aside0.mk (Kd.S_lower ho0 (below_size (by repeat (first | (with_reducible first | exact HB.out | apply below_alloc | apply pw_below_drewN | apply below_drew1) | exact HB.out)))); have n2_ := Aside0.mk (below_step (by repeat (first | (with_reducible first | exact HB.out | apply below_alloc | apply pw_below_drewN | apply below_drew1) | exact HB.out)) hb); clear HO158; clear HB; have HO158 := n0_; have HO161 := n1_; have HB := n2_; clear n0_ n1_ n2_; (try clear hb); (try clear hb2); (try clear hk); (try clear hi); (try clear ho0); obtain ⟨Ao50, co50, eo50⟩ := Kd.S_slice HO161.out; subst eo50) | ((with_reducible refine gate_callee (f := 15) rfl ?_); refine goesL_ (some 5) rfl rfl Try.func15 (by kernel_rfl) rfl #[.agg #[.string (⟨#[]⟩ : ByteArray), .string (⟨#[]⟩ : ByteArray), .int .i64 5], .int .i64 1, .slice Ao50 t159.length co50] rfl (by (try simp only [List.map_toArray, List.map_cons, List.map_nil]); first | done | rfl | (simp only [List.length_drop, List.length_take]; rfl)) ?_; (with_reducible refine (release_Publish.calls k (⟨#[]⟩ : ByteArray) (⟨#[]⟩ : ByteArray) 5 1 _ _ t159 t162 _ ?side1 ?side2 A2.out).mono ?_); (case side1 => repeat (first | exact (Kd.S_reads' HO161.out).2.2 | (with_reducible refine Kd.C_alloc ?_ _) | (with_reducible refine Kd.C_drewN ?_ _) | (with_reducible refine Kd.C_drew ?_))); (case side2 => exact (Kd.S_reads' HO161.out).2.1); rintro e w51 ⟨v163, rfl, ho0, hb⟩; refine ⟨_, rfl, ?_⟩; have n0_ := Aside0.mk (Kd.R_below (by (with_reducible repeat (first | apply Kd.R_alloc | apply Kd.R_drewN | apply Kd.R_drew)); exact HO158.out) hb); have n1_ := Aside0.mk (Kd.S_below (by (with_reducible repeat (first | apply Kd.S_alloc | apply Kd.S_drewN | apply Kd.S_drew)); exact HO161.out) hb); have n2_ := Aside0.mk (Kd.V_lower (Kd.V_mono (ok' := fun k_ => some k_ ≠ (.slice Ao48 y156.length co48 : Value).ownBlock ∧ some k_ ≠ (.slice Ao50 t159.length co50 : Value).ownBlock) ho0 (fun k_ hk_ => ⟨(Kd.fresh' (Kd.R_lt (by (with_reducible repeat (first | apply Kd.R_alloc | apply Kd.R_drewN | apply Kd.R_drew)); exact HO158.out)) k_ hk_), (Kd.fresh' (Kd.S_lt (by (with_reducible repeat (first | apply Kd.S_alloc | apply Kd.S_drewN | apply Kd.S_drew)); exact HO161.out)) k_ hk_)⟩)) (below_size (by repeat (first | (with_reducible first | exact HB.out | apply below_alloc | apply pw_below_drewN | apply below_drew1) | exact HB.out)))); have n3_ := Aside0.mk (below_step (by repeat (first | (with_reducible first | exact HB.out | apply below_alloc | apply pw_below_drewN | apply below_drew1) | exact HB.out)) hb); clear HO158; clear HO161; clear HB; have HO158 := n0_; have HO161 := n1_; have HO164 := n2_; have HB := n3_; clear n0_ n1_ n2_ n3_; (try clear hb); (try clear hb2); (try clear hk); (try clear hi); (try clear ho0)))
    have n0_ := Aside0.mk (Kd.R_drew HO158.out)
    have n1_ := Aside0.mk (Kd.S_drew HO161.out)
    have n2_ := Aside0.mk (Kd.V_drew HO164.out)
    have n3_ := Aside0.mk (below_drew1 HB.out)
    clear HO158
    clear HO161
    clear HO164
    clear HB
    have HO158 := n0_
    have HO161 := n1_
    have HO164 := n2_
    have HB := n3_
    clear n0_ n1_ n2_ n3_
    obtain ⟨Ao53, co53, eo53⟩ := Kd.V_slice HO164.out
    (first | subst eo53 | (injection eo53 with f1_ f2_ f3_; have f4_ := f1_.symm; have f5_ := f3_.symm; clear f1_ f2_ f3_; subst f4_; subst f5_))
    have p165 : 0 ≤ (0 : Int) := (by omega)
    have q165 : 0 < (t162.length : Int) := of_decide_eq_true (by first | (with_reducible assumption) | assumption)
    obtain ⟨ad165, A165_0, c165_0, e165, hx165_0, hx165_1, hl165_0, hi165_0⟩ := at_T43 (Kd.V_reads' HO164.out).2.2 0 p165 q165
    cases e165
    obtain ⟨ce165, hce165, hMe165, hcc165⟩ := Kd.V_get HO164.out z43 0 p165 (by first | exact q165 | exact of_decide_eq_true (by first | (with_reducible assumption) | assumption) | (have e_ := (Kd.V_reads' HO164.out).1; omega))
    obtain ⟨ua165_0, uc165_0, rfl, ul165_0, ge165_0⟩ := k43_openF hMe165
    have hv165_0 := hcc165 0 _ rfl
    rw [Nat.add_zero] at hv165_0
    replace hv165_0 := Option.some.inj (hv165_0.symm.trans hx165_0)
    injection hv165_0 with hva_ hvn_ hvc_
    rw [hva_] at ge165_0
    rw [hvc_] at ul165_0
    have HL165_0 := Aside0.mk (show Kd.V k38 38 _ w.heap.size _ _ ((rd_T43 t162 0).f0) from Kd.V_mk ul165_0 ge165_0)
    clear hva_ hvn_ hvc_ ge165_0 ul165_0
    clear hcc165 hce165
    have qi165 : (0 < t162.length) = True := eq_true (by omega)
    (try rw [show ((0 : Int)).toNat = 0 from rfl] at hx165_0)
    (try rw [show 0 * 2 = 0 from rfl] at hx165_0)
    (try rw [Addr.add_zero'] at hx165_0)
    (try rw [show ((0 : Int)).toNat = 0 from rfl] at hx165_1)
    (try rw [show 0 * 2 = 0 from rfl] at hx165_1)
    (try rw [Addr.add_zero'] at hx165_1)
    have HR165_0 := Aside0.mk hi165_0
    have HC165_0 := Aside0.mk hl165_0
    clear hi165_0 hl165_0
    replace p165 := eq_true p165
    replace q165 := eq_true q165
    refine start_ (n := 43) (S := fun w' => w'.cell? ad165 = some (.slice A165_0 ((rd_T43 t162 0).f0).length c165_0) ∧ w'.cell? ⟨ad165.block, ad165.off + 1, none⟩ = some (.int .i64 ((rd_T43 t162 0).f1))) (ds := []) #[false, false, false, false, false, false, false, false, false, false, false, false, false, false, false, false, false, false, false, false, false, false, false, false, false, false, false, false, false, false, false, false, false, false, false, false, false, false, false, false, false, false, false] (by kernel_rfl) rfl rfl ⟨hx165_0, hx165_1⟩ (fun hHeld => ?_); refine with_tabW erasurelaw35_awake.tab2 erasurelaw35_awake.bits2 (fun HT_ HW_ => ?_)
    generalize w51.drew = w52 at HO158 HO161 HO164 HB HL165_0 HR165_0 hx165_0 hx165_1 hHeld ⊢
    refine pu (i := 0) (N := some 6) (bl 43 1) (any_of HT_.out (by kernel_rfl)) ?_
    refine pu (i := 1) (N := some 7) (bl 43 3) (any_of HT_.out (by kernel_rfl)) ?_
    refine pu (i := 2) (N := some 8) (bl 43 7) (any_of HT_.out (by kernel_rfl)) ?_
    refine pu (i := 3) (N := some 9) (bl 43 15) (any_of HT_.out (by kernel_rfl)) ?_
    refine pu (i := 4) (N := some 10) (bl 43 31) (any_of HT_.out (by kernel_rfl)) ?_
    refine pu (i := 5) (N := some 11) (bl 43 63) (any_of HT_.out (by kernel_rfl)) ?_
    refine pu (i := 6) (N := some 12) (bl 43 127) (any_of HT_.out (by kernel_rfl)) ?_
    refine ta (i := 7) (N := some 13) (bl 43 255) (take_ofW HT_.out HW_.out (by kernel_rfl)) hHeld ?_
    refine pu (i := 8) (N := some 14) (bl 43 511) (any_of HT_.out (by kernel_rfl)) ?_
    refine pu (i := 9) (N := some 15) (bl 43 1023) (any_of HT_.out (by kernel_rfl)) ?_
    refine pu (i := 10) (N := some 16) (bl 43 2047) (any_of HT_.out (by kernel_rfl)) ?_
    refine po (i := 11) (N := some 17) (bl 43 4095) (any_of HT_.out (by kernel_rfl)) ?_
    refine po (i := 12) (N := some 18) (bl 43 8191) (any_of HT_.out (by kernel_rfl)) ?_
    refine po (i := 13) (N := some 19) (bl 43 16383) (any_of HT_.out (by kernel_rfl)) ?_
    refine po (i := 14) (N := some 20) (bl 43 32767) (any_of HT_.out (by kernel_rfl)) ?_
    refine po (i := 15) (N := some 21) (bl 43 65535) (any_of HT_.out (by kernel_rfl)) ?_
    refine pu (i := 16) (N := some 22) (bl 43 131071) (any_of HT_.out (by kernel_rfl)) ?_
    refine pu (i := 17) (N := some 23) (bl 43 262143) (any_of HT_.out (by kernel_rfl)) ?_
    refine po (i := 18) (N := some 24) (bl 43 524287) (any_of HT_.out (by kernel_rfl)) ?_
    refine po (i := 19) (N := some 25) (bl 43 1048575) (any_of HT_.out (by kernel_rfl)) ?_
    refine po (i := 20) (N := some 26) (bl 43 2097151) (any_of HT_.out (by kernel_rfl)) ?_
    refine po (i := 21) (N := some 27) (bl 43 4194303) (any_of HT_.out (by kernel_rfl)) ?_
    refine po (i := 22) (N := some 28) (bl 43 8388607) (any_of HT_.out (by kernel_rfl)) ?_
    refine pu (i := 23) (N := some 29) (bl 43 16777215) (any_of HT_.out (by kernel_rfl)) ?_
    refine pu (i := 24) (N := some 30) (bl 43 33554431) (any_of HT_.out (by kernel_rfl)) ?_
    refine po (i := 25) (N := some 31) (bl 43 67108863) (any_of HT_.out (by kernel_rfl)) ?_
    refine po (i := 26) (N := some 32) (bl 43 134217727) (any_of HT_.out (by kernel_rfl)) ?_
    refine po (i := 27) (N := some 33) (bl 43 268435455) (any_of HT_.out (by kernel_rfl)) ?_
    refine po (i := 28) (N := some 34) (bl 43 536870911) (any_of HT_.out (by kernel_rfl)) ?_
    refine po (i := 29) (N := some 35) (bl 43 1073741823) (any_of HT_.out (by kernel_rfl)) ?_
    refine po (i := 30) (N := some 36) (bl 43 2147483647) (any_of HT_.out (by kernel_rfl)) ?_
    refine pu (i := 31) (N := some 37) (bl 43 4294967295) (any_of HT_.out (by kernel_rfl)) ?_
    refine pu (i := 32) (N := some 38) (bl 43 8589934591) (any_of HT_.out (by kernel_rfl)) ?_
    refine po (i := 33) (N := some 39) (bl 43 17179869183) (any_of HT_.out (by kernel_rfl)) ?_
    refine po (i := 34) (N := some 40) (bl 43 34359738367) (any_of HT_.out (by kernel_rfl)) ?_
    refine po (i := 35) (N := some 41) (bl 43 68719476735) (any_of HT_.out (by kernel_rfl)) ?_
    refine po (i := 36) (N := some 42) (bl 43 137438953471) (any_of HT_.out (by kernel_rfl)) ?_
    refine po (i := 37) (N := some 43) (bl 43 274877906943) (any_of HT_.out (by kernel_rfl)) ?_
    refine po (i := 38) (N := some 44) (bl 43 549755813887) (any_of HT_.out (by kernel_rfl)) ?_
    refine po (i := 39) (N := some 45) (bl 43 1099511627775) (any_of HT_.out (by kernel_rfl)) ?_
    refine po (i := 40) (N := some 46) (bl 43 2199023255551) (any_of HT_.out (by kernel_rfl)) ?_
    refine pu (i := 41) (N := some 47) (bl 43 4398046511103) (any_of HT_.out (by kernel_rfl)) ?_
    refine pu (i := 42) (N := some 0) (bl 43 8796093022207) (any_of HT_.out (by kernel_rfl)) ?_
    refine done_ (done_of HT_.out (by kernel_rfl)) ?_
    try go_wp2
    go_ret
    exact ⟨by first | rfl | (simp [errW_none, errW_some] <;> rfl) | (simp [*, errW_none, errW_some] <;> rfl), by repeat (first | (with_reducible first | exact HB.out | apply below_alloc | apply pw_below_drewN | apply below_drew1) | exact HB.out)⟩
  ·rw [if_neg c4] at H
   exact absurd H (by simp)
 ·rw [if_neg c3] at H
  have c3b0 : ((t162.length : Int) == 3) = false := beq_eq_false_iff_ne.mpr c3
  have c3b1 : ((t162.length : Int) != 3) = true := bne_iff_ne.mpr c3
  obtain rfl := Option.some.inj H
  go_enter Try.func12, Try.ntmps12
  try go_wp2_with (first | ((with_reducible refine gate_dst (N := 3) rfl ?_); (try (refine gate_guard (by rfl) ?_; dsimp only)); refine Kd.R_lit (Kd.int .i64) _ 3 ?hg (N := 3) ?hd (xs := ([4, 5, 9, 10] : List Int)) (inner := [.int .i64 4, .int .i64 5, .int .i64 9, .int .i64 10]) (ok := fun _ => True) (okp := fun _ => True) ?hr ?hp (fun _ hk => hk) trivial (Below.refl _ _) (Nat.le_refl _) (by simp) ?_; (case hd => rfl); (case hg => rfl); (case hr => first | (go_simp; done) | (go_simp; rfl)); (case hp => exact (Reps.one (show Kd.M (Kd.int .i64) _ _ _ 4 [.int .i64 4] from rfl) (Reps.one (show Kd.M (Kd.int .i64) _ _ _ 5 [.int .i64 5] from rfl) (Reps.one (show Kd.M (Kd.int .i64) _ _ _ 9 [.int .i64 9] from rfl) (Reps.one (show Kd.M (Kd.int .i64) _ _ _ 10 [.int .i64 10] from rfl) (Reps.none _ _)))))); intro v157 w54 ho55 hb hg_ hnew_; clear hg_ hnew_; (first | rw [← Ny156.out] at ho55 | (simp only [Int.reduceToNat] at ho55; rw [← Ny156.out] at ho55)); have n0_ := Aside0.mk (Kd.R_lower ho55 (below_size (by repeat (first | (with_reducible first | exact HB.out | apply below_alloc | apply pw_below_drewN | apply below_drew1) | exact HB.out)))); have n1_ := Aside0.mk (below_step (by repeat (first | (with_reducible first | exact HB.out | apply below_alloc | apply pw_below_drewN | apply below_drew1) | exact HB.out)) hb); clear HB; have HO158 := n0_; have HB := n1_; clear n0_ n1_; clear hb ho55; obtain ⟨Ao56, co56, eo56⟩ := Kd.R_slice HO158.out; subst eo56) | ((with_reducible refine gate_callee (f := 18) rfl ?_); refine goesL_ (some 4) rfl rfl Try.func18 (by kernel_rfl) rfl #[.slice Ao56 y156.length co56] rfl (by (try simp only [List.map_toArray, List.map_cons, List.map_nil]); first | done | rfl | (simp only [List.length_drop, List.length_take]; rfl)) ?_; (with_reducible refine (erasurelaw35_Groups.calls k _ _ y156 t159 _ ?side1 ?side2 A1.out).mono ?_); (case side1 => repeat (first | exact (Kd.R_reads' HO158.out).2.2 | (with_reducible refine Kd.C_alloc ?_ _) | (with_reducible refine Kd.C_drewN ?_ _) | (with_reducible refine Kd.C_drew ?_))); (case side2 => exact (Kd.R_reads' HO158.out).2.1); rintro e w57 ⟨v160, rfl, ho0, hb⟩; refine ⟨_, rfl, ?_⟩; have n0_ := Aside0.mk (Kd.R_below (by (with_reducible repeat (first | apply Kd.R_alloc | apply Kd.R_drewN | apply Kd.R_drew)); exact HO158.out) hb); have n1_ := Aside0.mk (Kd.S_lower ho0 (below_size (by repeat (first | (with_reducible first | exact HB.out | apply below_alloc | apply pw_below_drewN | apply below_drew1) | exact HB.out)))); have n2_ := Aside0.mk (below_step (by repeat (first | (with_reducible first | exact HB.out | apply below_alloc | apply pw_below_drewN | apply below_drew1) | exact HB.out)) hb); clear HO158; clear HB; have HO158 := n0_; have HO161 := n1_; have HB := n2_; clear n0_ n1_ n2_; (try clear hb); (try clear hb2); (try clear hk); (try clear hi); (try clear ho0); obtain ⟨Ao58, co58, eo58⟩ := Kd.S_slice HO161.out; subst eo58) | ((with_reducible refine gate_callee (f := 15) rfl ?_); refine goesL_ (some 5) rfl rfl Try.func15 (by kernel_rfl) rfl #[.agg #[.string (⟨#[]⟩ : ByteArray), .string (⟨#[]⟩ : ByteArray), .int .i64 5], .int .i64 1, .slice Ao58 t159.length co58] rfl (by (try simp only [List.map_toArray, List.map_cons, List.map_nil]); first | done | rfl | (simp only [List.length_drop, List.length_take]; rfl)) ?_; (with_reducible refine (release_Publish.calls k (⟨#[]⟩ : ByteArray) (⟨#[]⟩ : ByteArray) 5 1 _ _ t159 t162 _ ?side1 ?side2 A2.out).mono ?_); (case side1 => repeat (first | exact (Kd.S_reads' HO161.out).2.2 | (with_reducible refine Kd.C_alloc ?_ _) | (with_reducible refine Kd.C_drewN ?_ _) | (with_reducible refine Kd.C_drew ?_))); (case side2 => exact (Kd.S_reads' HO161.out).2.1); rintro e w59 ⟨v163, rfl, ho0, hb⟩; refine ⟨_, rfl, ?_⟩; have n0_ := Aside0.mk (Kd.R_below (by (with_reducible repeat (first | apply Kd.R_alloc | apply Kd.R_drewN | apply Kd.R_drew)); exact HO158.out) hb); have n1_ := Aside0.mk (Kd.S_below (by (with_reducible repeat (first | apply Kd.S_alloc | apply Kd.S_drewN | apply Kd.S_drew)); exact HO161.out) hb); have n2_ := Aside0.mk (Kd.V_lower (Kd.V_mono (ok' := fun k_ => some k_ ≠ (.slice Ao56 y156.length co56 : Value).ownBlock ∧ some k_ ≠ (.slice Ao58 t159.length co58 : Value).ownBlock) ho0 (fun k_ hk_ => ⟨(Kd.fresh' (Kd.R_lt (by (with_reducible repeat (first | apply Kd.R_alloc | apply Kd.R_drewN | apply Kd.R_drew)); exact HO158.out)) k_ hk_), (Kd.fresh' (Kd.S_lt (by (with_reducible repeat (first | apply Kd.S_alloc | apply Kd.S_drewN | apply Kd.S_drew)); exact HO161.out)) k_ hk_)⟩)) (below_size (by repeat (first | (with_reducible first | exact HB.out | apply below_alloc | apply pw_below_drewN | apply below_drew1) | exact HB.out)))); have n3_ := Aside0.mk (below_step (by repeat (first | (with_reducible first | exact HB.out | apply below_alloc | apply pw_below_drewN | apply below_drew1) | exact HB.out)) hb); clear HO158; clear HO161; clear HB; have HO158 := n0_; have HO161 := n1_; have HO164 := n2_; have HB := n3_; clear n0_ n1_ n2_ n3_; (try clear hb); (try clear hb2); (try clear hk); (try clear hi); (try clear ho0)))
  have n0_ := Aside0.mk (Kd.R_drew HO158.out)
  have n1_ := Aside0.mk (Kd.S_drew HO161.out)
  have n2_ := Aside0.mk (Kd.V_drew HO164.out)
  have n3_ := Aside0.mk (below_drew1 HB.out)
  clear HO158
  clear HO161
  clear HO164
  clear HB
  have HO158 := n0_
  have HO161 := n1_
  have HO164 := n2_
  have HB := n3_
  clear n0_ n1_ n2_ n3_
  obtain ⟨Ao61, co61, eo61⟩ := Kd.V_slice HO164.out
  (first | subst eo61 | (injection eo61 with f1_ f2_ f3_; have f4_ := f1_.symm; have f5_ := f3_.symm; clear f1_ f2_ f3_; subst f4_; subst f5_))
  refine start_ (n := 43) (S := fun w' => True) (ds := []) #[false, false, false, false, false, false, false, false, false, false, false, false, false, false, false, false, false, false, false, false, false, false, false, false, false, false, false, false, false, false, false, false, false, false, false, false, false, false, false, false, false, false, false] (by kernel_rfl) rfl rfl trivial (fun hHeld => ?_); refine with_tabW erasurelaw35_awake.tab2 erasurelaw35_awake.bits2 (fun HT_ HW_ => ?_)
  generalize w59.drew = w60 at HO158 HO161 HO164 HB hHeld ⊢
  refine pu (i := 0) (N := some 6) (bl 43 1) (any_of HT_.out (by kernel_rfl)) ?_
  refine pu (i := 1) (N := some 7) (bl 43 3) (any_of HT_.out (by kernel_rfl)) ?_
  refine pu (i := 2) (N := some 8) (bl 43 7) (any_of HT_.out (by kernel_rfl)) ?_
  refine pu (i := 3) (N := some 9) (bl 43 15) (any_of HT_.out (by kernel_rfl)) ?_
  refine po (i := 4) (N := some 10) (bl 43 31) (any_of HT_.out (by kernel_rfl)) ?_
  refine po (i := 5) (N := some 11) (bl 43 63) (any_of HT_.out (by kernel_rfl)) ?_
  refine po (i := 6) (N := some 12) (bl 43 127) (any_of HT_.out (by kernel_rfl)) ?_
  refine po (i := 7) (N := some 13) (bl 43 255) (any_of HT_.out (by kernel_rfl)) ?_
  refine po (i := 8) (N := some 14) (bl 43 511) (any_of HT_.out (by kernel_rfl)) ?_
  refine pu (i := 9) (N := some 15) (bl 43 1023) (any_of HT_.out (by kernel_rfl)) ?_
  refine pu (i := 10) (N := some 16) (bl 43 2047) (any_of HT_.out (by kernel_rfl)) ?_
  refine po (i := 11) (N := some 17) (bl 43 4095) (any_of HT_.out (by kernel_rfl)) ?_
  refine po (i := 12) (N := some 18) (bl 43 8191) (any_of HT_.out (by kernel_rfl)) ?_
  refine po (i := 13) (N := some 19) (bl 43 16383) (any_of HT_.out (by kernel_rfl)) ?_
  refine po (i := 14) (N := some 20) (bl 43 32767) (any_of HT_.out (by kernel_rfl)) ?_
  refine po (i := 15) (N := some 21) (bl 43 65535) (any_of HT_.out (by kernel_rfl)) ?_
  refine pu (i := 16) (N := some 22) (bl 43 131071) (any_of HT_.out (by kernel_rfl)) ?_
  refine pu (i := 17) (N := some 23) (bl 43 262143) (any_of HT_.out (by kernel_rfl)) ?_
  refine po (i := 18) (N := some 24) (bl 43 524287) (any_of HT_.out (by kernel_rfl)) ?_
  refine po (i := 19) (N := some 25) (bl 43 1048575) (any_of HT_.out (by kernel_rfl)) ?_
  refine po (i := 20) (N := some 26) (bl 43 2097151) (any_of HT_.out (by kernel_rfl)) ?_
  refine po (i := 21) (N := some 27) (bl 43 4194303) (any_of HT_.out (by kernel_rfl)) ?_
  refine po (i := 22) (N := some 28) (bl 43 8388607) (any_of HT_.out (by kernel_rfl)) ?_
  refine pu (i := 23) (N := some 29) (bl 43 16777215) (any_of HT_.out (by kernel_rfl)) ?_
  refine pu (i := 24) (N := some 30) (bl 43 33554431) (any_of HT_.out (by kernel_rfl)) ?_
  refine po (i := 25) (N := some 31) (bl 43 67108863) (any_of HT_.out (by kernel_rfl)) ?_
  refine po (i := 26) (N := some 32) (bl 43 134217727) (any_of HT_.out (by kernel_rfl)) ?_
  refine po (i := 27) (N := some 33) (bl 43 268435455) (any_of HT_.out (by kernel_rfl)) ?_
  refine po (i := 28) (N := some 34) (bl 43 536870911) (any_of HT_.out (by kernel_rfl)) ?_
  refine po (i := 29) (N := some 35) (bl 43 1073741823) (any_of HT_.out (by kernel_rfl)) ?_
  refine po (i := 30) (N := some 36) (bl 43 2147483647) (any_of HT_.out (by kernel_rfl)) ?_
  refine pu (i := 31) (N := some 37) (bl 43 4294967295) (any_of HT_.out (by kernel_rfl)) ?_
  refine pu (i := 32) (N := some 38) (bl 43 8589934591) (any_of HT_.out (by kernel_rfl)) ?_
  refine po (i := 33) (N := some 39) (bl 43 17179869183) (any_of HT_.out (by kernel_rfl)) ?_
  refine po (i := 34) (N := some 40) (bl 43 34359738367) (any_of HT_.out (by kernel_rfl)) ?_
  refine po (i := 35) (N := some 41) (bl 43 68719476735) (any_of HT_.out (by kernel_rfl)) ?_
  refine po (i := 36) (N := some 42) (bl 43 137438953471) (any_of HT_.out (by kernel_rfl)) ?_
  refine po (i := 37) (N := some 43) (bl 43 274877906943) (any_of HT_.out (by kernel_rfl)) ?_
  refine po (i := 38) (N := some 44) (bl 43 549755813887) (any_of HT_.out (by kernel_rfl)) ?_
  refine po (i := 39) (N := some 45) (bl 43 1099511627775) (any_of HT_.out (by kernel_rfl)) ?_
  refine po (i := 40) (N := some 46) (bl 43 2199023255551) (any_of HT_.out (by kernel_rfl)) ?_
  refine pu (i := 41) (N := some 47) (bl 43 4398046511103) (any_of HT_.out (by kernel_rfl)) ?_
  refine pu (i := 42) (N := some 0) (bl 43 8796093022207) (any_of HT_.out (by kernel_rfl)) ?_
  refine done_ (done_of HT_.out (by kernel_rfl)) ?_
  try go_wp2
  go_ret
  exact ⟨by first | rfl | (simp [errW_none, errW_some] <;> rfl) | (simp [*, errW_none, errW_some] <;> rfl), by repeat (first | (with_reducible first | exact HB.out | apply below_alloc | apply pw_below_drewN | apply below_drew1) | exact HB.out)⟩
end Go.Proofs.Ytjhnpaenhdbhpaa.P
namespace Go.Proofs.Ytjhnpaenhdbhpaa.P
open Go.RowKit Go.Proofs.YtjhnpaenhdbhpaaW.PrintWords Go.Proofs.YtjhnpaenhdbhpaaW.PrintLast Go.Proofs.YtjhnpaenhdbhpaaW.PrintMore
attribute [local go_sem] max2_int min2_int max_two min_two max_three min_three max_four min_four
set_option linter.unusedVariables false
set_option linter.unusedSimpArgs false
def erasurelaw35_limit.f (a0 : Int) : Option (ByteArray × ByteArray × Int) := some ((⟨#[]⟩ : ByteArray), (⟨#[]⟩ : ByteArray), wrap64 (1 + (Go.bits .and .i64 a0 15)))
set_option maxHeartbeats 8000000 in
set_option maxRecDepth 100000 in
theorem erasurelaw35_limit.calls (a0 : Int) (r1 : ByteArray) (r2 : ByteArray) (r3 : Int) (w : World) (h : erasurelaw35_limit.f a0 = some (r1, r2, r3)) :
  Calls Try.prog 17 #[.int .i64 a0] w fun e w' => e = .returned (.agg #[.string r1, .string r2, .int .i64 r3]) ∧ Below w.heap.size w w' := by
 have hu23 := Try.underlying23
 have HB := Aside0.mk (Below.refl w.heap.size w)
 have H : (some ((⟨#[]⟩ : ByteArray), (⟨#[]⟩ : ByteArray), wrap64 (1 + (Go.bits .and .i64 a0 15)))) = some (r1, r2, r3) := h
 clear h
 simp only [Option.some.injEq, Prod.mk.injEq] at H
 obtain ⟨rfl, rfl, rfl⟩ := H
 go_enter Try.func17, Try.ntmps17
 go_wp2_with (first | ((with_reducible refine gate_dst (N := 2) rfl ?_); refine box_event ?hg (N := 2) ?hd (cs := #[.string (⟨#[]⟩ : ByteArray), .string (⟨#[]⟩ : ByteArray), .int .i64 0]) (t := 23) ?hr ?_; (case hd => rfl); (case hg => rfl); (case hr => first | (go_simp; done) | (go_simp; rfl)); intro gb302 hg w2 hbox hb; have n0_ := Aside0.mk (below_step (by repeat (first | (with_reducible first | exact HB.out | apply below_alloc | apply pw_below_drewN | apply below_drew1) | exact HB.out)) hb); have n1_ := Aside0.mk (hbox); have n2_ := Aside0.mk ((by rw [hg]; exact (below_size (by repeat (first | (with_reducible first | exact HB.out | apply below_alloc | apply pw_below_drewN | apply below_drew1) | exact HB.out))) : w.heap.size ≤ gb302)); have n3_ := Aside0.mk ((by rw [hg]; exact (below_size (by repeat (first | (with_reducible first | exact HB.out | apply below_alloc | apply pw_below_drewN | apply below_drew1) | exact HB.out))) : w.heap.size ≤ gb302)); clear HB; have HB := n0_; have BK302 := n1_; have GW302 := n2_; have GE302 := n3_; clear n0_ n1_ n2_ n3_; clear hb hbox hg; have hcz3_0 : w2.cell? ⟨gb302, 0, none⟩ = some (.string (⟨#[]⟩ : ByteArray)) := (blk_cell BK302.out 0).trans rfl; have hcz3_1 : w2.cell? ⟨gb302, 1, none⟩ = some (.string (⟨#[]⟩ : ByteArray)) := (blk_cell BK302.out 1).trans rfl; have hcz3_2 : w2.cell? ⟨gb302, 2, none⟩ = some (.int .i64 0) := (blk_cell BK302.out 2).trans rfl; have hfz3_0 := blk_frozen BK302.out 0; have hfz3_1 := blk_frozen BK302.out 1; have hfz3_2 := blk_frozen BK302.out 2))
 refine bodyPost_ret (results_cell_row rfl _ _ gb302 23 #[.string (⟨#[]⟩ : ByteArray), .string (⟨#[]⟩ : ByteArray), .int .i64 (wrap64 (1 + (Go.bits .and .i64 a0 15)))] (0, 0) _ rfl (by (with_reducible repeat (first | refine blk_drewN ?_ _ | refine blk_drew ?_ | refine blk_alloc ?_ _)); refine blk_put (cs := #[.string (⟨#[]⟩ : ByteArray), .string (⟨#[]⟩ : ByteArray), .int .i64 0]) ?_ 2 _ rfl; (with_reducible repeat (first | refine blk_drewN ?_ _ | refine blk_drew ?_ | refine blk_alloc ?_ _)); refine blk_put (cs := #[.string (⟨#[]⟩ : ByteArray), .string (⟨#[]⟩ : ByteArray), .int .i64 0]) ?_ 1 _ rfl; (with_reducible repeat (first | refine blk_drewN ?_ _ | refine blk_drew ?_ | refine blk_alloc ?_ _)); refine blk_put (cs := #[.string (⟨#[]⟩ : ByteArray), .string (⟨#[]⟩ : ByteArray), .int .i64 0]) ?_ 0 _ rfl; (with_reducible repeat (first | refine blk_drewN ?_ _ | refine blk_drew ?_ | refine blk_alloc ?_ _)); exact BK302.out) Try.underlying23 rfl (by kernel_rfl)) rfl ?_
 exact ⟨by first | rfl | (simp [errW_none, errW_some] <;> rfl) | (simp [*, errW_none, errW_some] <;> rfl), by repeat (first | (with_reducible first | exact HB.out | apply below_alloc | apply pw_below_drewN | apply below_drew1 | refine below_set ?_ GE302.out) | exact HB.out)⟩
end Go.Proofs.Ytjhnpaenhdbhpaa.P
namespace Go.Proofs.Ytjhnpaenhdbhpaa.P
open Go.RowKit Go.Proofs.YtjhnpaenhdbhpaaW.PrintWords Go.Proofs.YtjhnpaenhdbhpaaW.PrintLast Go.Proofs.YtjhnpaenhdbhpaaW.PrintMore
attribute [local go_sem] max2_int min2_int max_two min_two max_three min_three max_four min_four
set_option linter.unusedVariables false
set_option linter.unusedSimpArgs false
def erasurelaw35_few.l0 : Nat → List (S43) → Int → Option (Bool)
 | 0, _, _ => none
 | k + 1, x0, x3 => if x3 < (x0.length : Int) then (if 0 ≤ x3 then (if (((rd_T43 x0 x3).f0).length : Int) > 20 then (some false) else (erasurelaw35_few.l0 k x0 (wrap64 (x3 + 1)))) else (none)) else (some (decide ((x0.length : Int) ≤ 30)))
def erasurelaw35_few.f (k : Nat) (l0 : List (S43)) : Option (Bool) := erasurelaw35_few.l0 k l0 0
set_option maxHeartbeats 8000000 in
set_option maxRecDepth 100000 in
theorem erasurelaw35_few.calls (k : Nat) (A0 : Option Addr) (c0 : Nat) (l0 : List (S43)) (r : Bool) (w : World) (hr0 : Kd.C k43 w A0 l0.length l0) (hc0 : l0.length ≤ c0) (h : erasurelaw35_few.f k l0 = some r) :
  Calls Try.prog 22 #[.slice A0 l0.length c0] w fun e w' => e = .returned (.bool r) ∧ Drawn0 w w' := by
 have HR0 := Aside0.mk hr0
 have HC0 := Aside0.mk hc0
 clear hr0 hc0
 have H : (erasurelaw35_few.l0 k l0 0) = some r := h
 clear h
 have H' := Aside0.mk H
 clear H
 go_enter Try.func22, Try.ntmps22
 go_wp2
 go_loopg [3] k (fun kq v3 w' => ∃ (x3_1 : Int), v3 = .int .i64 x3_1 ∧ Aside0 (erasurelaw35_few.l0 kq l0 x3_1 = some r) ∧ Aside0 (kq ≤ k) ∧ Drawn0 w w')
 case atStart => exact ⟨(0), (by first | rfl | (simp; done) | (simp [*]; done)), H', ⟨Nat.le_refl _⟩, by repeat (first | exact Drawn0.refl _ | apply Drawn0.step)⟩
 case round =>
  clear H'
  obtain ⟨x3_1, rfl, HA, HK1, ⟨m1, rfl⟩⟩ := hrel
  cases gk with
  | zero => exact absurd HA.out (by simp [erasurelaw35_few.l0])
  | succ k1 =>
   have H := HA.out
   clear HA
   simp only [erasurelaw35_few.l0] at H
   by_cases c2 : x3_1 < (l0.length : Int)
   ·rw [if_pos c2] at H
    have c2b0 : decide (x3_1 < (l0.length : Int)) = true := decide_eq_true c2
    clear c2
    by_cases c3 : 0 ≤ x3_1
    ·rw [if_pos c3] at H
     have c3b0 : decide (0 ≤ x3_1) = true := decide_eq_true c3
     clear c3
     by_cases c4 : (((rd_T43 l0 x3_1).f0).length : Int) > 20
     ·rw [if_pos c4] at H
      have c4b0 : decide (20 < (((rd_T43 l0 x3_1).f0).length : Int)) = true := decide_eq_true c4
      have c4b1 : decide (20 < ((rd_T43 l0 x3_1).f0).length) = true := decide_eq_true (by omega)
      clear c4
      obtain rfl := Option.some.inj H
      have p389 : 0 ≤ (x3_1 : Int) := of_decide_eq_true (by first | (with_reducible assumption) | assumption)
      have q389 : x3_1 < (l0.length : Int) := of_decide_eq_true (by first | (with_reducible assumption) | assumption)
      obtain ⟨ad389, A389_0, c389_0, e389, hx389_0, hx389_1, hl389_0, hi389_0⟩ := at_T43 HR0.out x3_1 p389 q389
      cases e389
      have HR389_0 := Aside0.mk hi389_0
      have HC389_0 := Aside0.mk hl389_0
      clear hi389_0 hl389_0
      replace p389 := eq_true p389
      replace q389 := eq_true q389
      go_wp2
      go_ret
      exact ⟨by first | rfl | (simp; done) | (simp [*]; done), by repeat (first | exact Drawn0.refl _ | apply Drawn0.step)⟩
     ·rw [if_neg c4] at H
      have c4b0 : decide (20 < (((rd_T43 l0 x3_1).f0).length : Int)) = false := decide_eq_false c4
      have c4b1 : decide (20 < ((rd_T43 l0 x3_1).f0).length) = false := decide_eq_false (by omega)
      clear c4
      have H' := Aside0.mk H
      clear H
      have p389 : 0 ≤ (x3_1 : Int) := of_decide_eq_true (by first | (with_reducible assumption) | assumption)
      have q389 : x3_1 < (l0.length : Int) := of_decide_eq_true (by first | (with_reducible assumption) | assumption)
      obtain ⟨ad389, A389_0, c389_0, e389, hx389_0, hx389_1, hl389_0, hi389_0⟩ := at_T43 HR0.out x3_1 p389 q389
      cases e389
      have HR389_0 := Aside0.mk hi389_0
      have HC389_0 := Aside0.mk hl389_0
      clear hi389_0 hl389_0
      replace p389 := eq_true p389
      replace q389 := eq_true q389
      go_wp2
      go_roundg k1
      case measure => have := HK1.out; omega
      case rel => exact ⟨(wrap64 (x3_1 + 1)), (by first | rfl | (simp; done) | (simp [*]; done)), H', ⟨by have := HK1.out; omega⟩, by repeat (first | exact Drawn0.refl _ | apply Drawn0.step)⟩
    ·rw [if_neg c3] at H
     exact absurd H (by simp)
   ·rw [if_neg c2] at H
    have c2b0 : decide (x3_1 < (l0.length : Int)) = false := decide_eq_false c2
    clear c2
    obtain rfl := Option.some.inj H
    go_wp2
    go_ret
    exact ⟨by first | rfl | (simp; done) | (simp [*]; done), by repeat (first | exact Drawn0.refl _ | apply Drawn0.step)⟩
end Go.Proofs.Ytjhnpaenhdbhpaa.P
