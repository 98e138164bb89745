/- Part of the proof of ReleasePublishes: printed by programs of this repo out of the translation, and by hand. Each theorem's conditions stand in its statement. -/
import Derived.Test.YtjhnpaenhdbhpaaMReleasePublishesa
import Derived.Test.YtjhnpaenhdbhpaaMReleasePublishesb
import Derived.Test.YtjhnpaenhdbhpaaMReleasePublishesc
import Derived.Test.YtjhnpaenhdbhpaaMReleasePublishesd
import Derived.Test.YtjhnpaenhdbhpaaMReleasePublishese
import Derived.Test.YtjhnpaenhdbhpaaMReleasePublishesf
namespace Go.Proofs.Ytjhnpaenhdbhpaa.P
open Go.RowKit Go.Proofs.YtjhnpaenhdbhpaaW.PrintWords Go.Proofs.YtjhnpaenhdbhpaaW.PrintLast Go.Proofs.YtjhnpaenhdbhpaaW.PrintMore
attribute [local go_sem] max2_int min2_int max_two min_two max_three min_three max_four min_four
set_option linter.unusedVariables false
set_option linter.unusedSimpArgs false
def erasureref26_CleanRow.l0 : Nat → List (S38) → List (S38) → Int → Option ((List (S38)))
 | 0, _, _, _ => none
 | k + 1, x0, x3, x4 => if x4 < (x0.length : Int) then (if 0 ≤ x4 then ((erasureref01_Clean.f ((rd_T38 x0 x4).f0) ((rd_T38 x0 x4).f1) ((rd_T38 x0 x4).f2)).bind fun bt250 => (if x3.length < 4398046511104 then (erasureref26_CleanRow.l0 k x0 (x3 ++ [(⟨bt250.1, bt250.2.1, bt250.2.2⟩ : S38)]) (wrap64 (x4 + 1))) else (none))) else (none)) else (some x3)
def erasureref26_CleanRow.f (k : Nat) (l0 : List (S38)) : Option ((List (S38))) := erasureref26_CleanRow.l0 k l0 ([] : List (S38)) 0
set_option maxHeartbeats 8000000 in
set_option maxRecDepth 100000 in
theorem erasureref26_CleanRow.calls (k : Nat) (A0 : Option Addr) (c0 : Nat) (l0 : List (S38)) (r : List (S38)) (w : World) (hr0 : Kd.C k38 w A0 l0.length l0) (hc0 : l0.length ≤ c0) (h : erasureref26_CleanRow.f k l0 = some r) :
  Calls Try.prog 19 #[.slice A0 l0.length c0] w fun e w' => ∃ v0_ : Value, e = .returned (v0_) ∧ Kd.R k38 38 w' w.heap.size (fun _ => True) v0_ r ∧ Below w.heap.size w w' := by
 have hu38 := Try.underlying38
 have HR0 := Aside0.mk hr0
 have HC0 := Aside0.mk hc0
 clear hr0 hc0
 have HB := Aside0.mk (Below.refl w.heap.size w)
 have H : (erasureref26_CleanRow.l0 k l0 ([] : List (S38)) 0) = some r := h
 clear h
 have H' := Aside0.mk H
 clear H
 go_enter Try.func19, Try.ntmps19
 go_wp2
 go_loopg [3, 4] k (fun kq v3 v4 w' => ∃ (x3_1 : List (S38)) (x4_1 : Int), v4 = .int .i64 x4_1 ∧ Aside0 (erasureref26_CleanRow.l0 kq l0 x3_1 x4_1 = some r) ∧ Aside0 (kq ≤ k) ∧ Aside0 (Kd.R k38 38 w' w.heap.size (fun _ => True) v3 x3_1) ∧ Aside0 (Below w.heap.size w w'))
 case atStart => exact ⟨(([] : List (S38))), (0), (by first | rfl | (simp; done) | (simp [*]; done)), H', ⟨Nat.le_refl _⟩, ⟨by first | exact Kd.R_nil _ _ _ _ _ | exact Kd.N_nil _ _ _ _ _ | exact Kd.V_nil _ _ _ _ _ | exact Kd.Q_nil _ _ _ _ _ | exact Kd.S_nil _ _ _ _ _⟩, ⟨by repeat (first | (with_reducible first | exact HB.out | apply below_alloc | apply pw_below_drewN | apply below_drew1) | exact HB.out)⟩⟩
 case round =>
  clear H'
  try clear c1
  obtain ⟨x3_1, x4_1, rfl, HA, HK1, HO_3, HB⟩ := hrel
  cases gk with
  | zero => exact absurd HA.out (by simp [erasureref26_CleanRow.l0])
  | succ k1 =>
   have H := HA.out
   clear HA
   simp only [erasureref26_CleanRow.l0] at H
   by_cases c2 : x4_1 < (l0.length : Int)
   ·rw [if_pos c2] at H
    have c2b0 : decide (x4_1 < (l0.length : Int)) = true := decide_eq_true c2
    clear c2
    by_cases c3 : 0 ≤ x4_1
    ·rw [if_pos c3] at H
     have c3b0 : decide (0 ≤ x4_1) = true := decide_eq_true c3
     clear c3
     replace H := Option.bind_eq_some_iff.mp H
     obtain ⟨⟨t250, t251, t252⟩, A40, H⟩ := H
     replace H : (if x3_1.length < 4398046511104 then (erasureref26_CleanRow.l0 k1 l0 (x3_1 ++ [(⟨t250, t251, t252⟩ : S38)]) (wrap64 (x4_1 + 1))) else (none)) = some r := H
     have A4 := Aside0.mk A40
     clear A40
     by_cases c5 : x3_1.length < 4398046511104
     ·rw [if_pos c5] at H
      have LMc5 := Aside0.mk c5
      clear c5
      obtain ⟨y253, hy253⟩ : ∃ y_ : List (S38), y_ = (x3_1 ++ [(⟨t250, t251, t252⟩ : S38)]) := ⟨_, rfl⟩
      replace H : (erasureref26_CleanRow.l0 k1 l0 y253 (wrap64 (x4_1 + 1))) = some r := by first | (rw [hy253]; with_reducible exact H) | (have H2_ := (Option.bind_some _ _).symm.trans H; rw [hy253]; with_reducible exact H2_) | (have H2_ := (Option.bind_some _ _).symm.trans H; with_reducible exact H2_) | with_reducible exact H | (rw [hy253]; exact H) | exact H
      have Ny253 := Aside0.mk hy253
      clear hy253
      have H' := Aside0.mk H
      clear H
      have p249 : 0 ≤ (x4_1 : Int) := of_decide_eq_true (by first | (with_reducible assumption) | assumption)
      have q249 : x4_1 < (l0.length : Int) := of_decide_eq_true (by first | (with_reducible assumption) | assumption)
      obtain ⟨ad249, e249, hx249_0, hx249_1, hx249_2⟩ := at_T38 HR0.out x4_1 p249 q249
      cases e249
      replace hx249_0 := (HB.out.cell (World.block_lt_of_cell? w _ hx249_0)).trans hx249_0
      replace hx249_1 := (HB.out.cell (World.block_lt_of_cell? w _ hx249_1)).trans hx249_1
      replace hx249_2 := (HB.out.cell (World.block_lt_of_cell? w _ hx249_2)).trans hx249_2
      replace p249 := eq_true p249
      replace q249 := eq_true q249
      go_wp2_with (first | ((with_reducible refine gate_callee (f := 39) rfl ?_); refine goesL_ (some 16) rfl rfl Try.func39 (by kernel_rfl) rfl #[.agg #[.int .i64 ((rd_T38 l0 x4_1).f0), .int .i64 ((rd_T38 l0 x4_1).f1), .string ((rd_T38 l0 x4_1).f2)]] rfl (by (try simp only [List.map_toArray, List.map_cons, List.map_nil]); first | done | rfl | (simp only [List.length_drop, List.length_take]; rfl)) ?_; (with_reducible refine (erasureref01_Clean.calls ((rd_T38 l0 x4_1).f0) ((rd_T38 l0 x4_1).f1) ((rd_T38 l0 x4_1).f2) t250 t251 t252 _ A4.out).mono ?_); rintro e w6 ⟨rfl, hb⟩; refine ⟨_, rfl, ?_⟩; have n0_ := Aside0.mk (Kd.R_below (by (with_reducible repeat (first | apply Kd.R_alloc | apply Kd.R_drewN | apply Kd.R_drew)); exact HO_3.out) hb); have n1_ := Aside0.mk (below_step (by repeat (first | (with_reducible first | exact HB.out | apply below_alloc | apply pw_below_drewN | apply below_drew1) | exact HB.out)) hb); clear HO_3; clear HB; have HO_3 := n0_; have HB := n1_; clear n0_ n1_; (try clear hb); (try clear hb2); (try clear hk); (try clear hi)) | ((with_reducible refine gate_builtin (b := .append) (xs := #[.tmp 11, .tmp 17]) rfl ?_); at_builtin; refine Kd.R_append k38 (w0 := w) w.heap.size rfl (.tmp 11) (.tmp 17) 39 38 (.agg #[(.int .i64 0), (.int .i64 0), (.string ⟨#[]⟩)]) 32 rfl Try.underlying39 info38 rfl (by decide) (by omega) u3 x3_1 (⟨t250, t251, t252⟩ : S38) [.int .i64 t250, .int .i64 t251, .string t252] (fun _ => True) (fun _ => False) rfl rfl ?aP (fun _ hk => hk.elim) ?aF ?aO ?aB ?aS ?aL ?_; (case aP => exact k38_mkM _ _ _ (⟨t250, t251, t252⟩ : S38)); (case aB => exact (by repeat (first | (with_reducible first | exact HB.out | apply below_alloc | apply pw_below_drewN | apply below_drew1) | exact HB.out))); (case aF => exact (fun _ _ => trivial)); (case aO => exact (by (with_reducible repeat (first | apply Kd.R_alloc | apply Kd.R_drewN | apply Kd.R_drew)); exact HO_3.out)); (case aS => exact (below_size (by repeat (first | (with_reducible first | exact HB.out | apply below_alloc | apply pw_below_drewN | apply below_drew1) | exact HB.out)))); (case aL => have := LMc5.out; omega); intro v254 w7 ho hb hg hat; rw [← Ny253.out] at ho; have n0_ := Aside0.mk (hb); have n1_ := Aside0.mk (ho); clear HB; clear HO_3; have HB := n0_; have HO255 := n1_; clear n0_ n1_; clear ho hb hg hat))
      go_roundg k1
      case measure => have := HK1.out; omega
      case rel => exact ⟨(y253), (wrap64 (x4_1 + 1)), (by first | rfl | (simp; done) | (simp [*]; done)), H', ⟨by have := HK1.out; omega⟩, ⟨by (with_reducible repeat (first | apply Kd.R_alloc | apply Kd.R_drewN | apply Kd.R_drew)); exact HO255.out⟩, ⟨by repeat (first | (with_reducible first | exact HB.out | apply below_alloc | apply pw_below_drewN | apply below_drew1) | exact HB.out)⟩⟩
     ·rw [if_neg c5] at H
      exact absurd H (by simp)
    ·rw [if_neg c3] at H
     exact absurd H (by simp)
   ·rw [if_neg c2] at H
    have c2b0 : decide (x4_1 < (l0.length : Int)) = false := decide_eq_false c2
    clear c2
    obtain rfl := Option.some.inj H
    go_wp2
    go_ret
    exact ⟨_, by first | rfl | (simp [errW_none, errW_some] <;> rfl) | (simp [*, errW_none, errW_some] <;> rfl), by (with_reducible repeat (first | apply Kd.R_alloc | apply Kd.R_drewN | apply Kd.R_drew)); exact HO_3.out, by repeat (first | (with_reducible first | exact HB.out | apply below_alloc | apply pw_below_drewN | apply below_drew1) | exact HB.out)⟩
end Go.Proofs.Ytjhnpaenhdbhpaa.P
namespace Go.Proofs.Ytjhnpaenhdbhpaa.P
open Go.RowKit Go.Proofs.YtjhnpaenhdbhpaaW.PrintWords Go.Proofs.YtjhnpaenhdbhpaaW.PrintLast Go.Proofs.YtjhnpaenhdbhpaaW.PrintMore
attribute [local go_sem] max2_int min2_int max_two min_two max_three min_three max_four min_four
set_option linter.unusedVariables false
set_option linter.unusedSimpArgs false
def erasureref06_Valid.l0 : Nat → List (S41) → Int → Option (Bool)
 | 0, _, _ => none
 | k + 1, x0, x3 => if x3 < (x0.length : Int) then (if 0 ≤ x3 then ((erasureref01_ValidRow.f k ((rd_T41 x0 x3).f0)).bind fun t257 => (if t257 = true then ((erasureref06_countOK.f ((rd_T41 x0 x3).f1)).bind fun t259 => (if t259 = true then (if ((rd_T41 x0 x3).f1) = 0 then (some false) else (if x3 > 0 then (if 0 ≤ (wrap64 (x3 - 1)) then (if (wrap64 (x3 - 1)) < (x0.length : Int) then ((erasureref01_CompareRows.f k ((rd_T41 x0 (wrap64 (x3 - 1))).f0) ((rd_T41 x0 x3).f0)).bind fun t263 => (if t263 ≥ 0 then (some false) else (erasureref06_Valid.l0 k x0 (wrap64 (x3 + 1))))) else (none)) else (none)) else (erasureref06_Valid.l0 k x0 (wrap64 (x3 + 1))))) else (some false))) else (some false))) else (none)) else (some true)
def erasureref06_Valid.f (k : Nat) (l0 : List (S41)) : Option (Bool) := if (l0.length : Int) > 4096 then (some false) else (erasureref06_Valid.l0 k l0 0)
def erasureref06_Valid.T6 : Bool × List (List Nat × List Nat) := (true, [([], []), ([], []), ([0, 1], [0, 1]), ([2], [2]), ([3], [3]), ([4], [4]), ([5], [5]), ([6, 5], [6]), ([7], [7]), ([7], [7]), ([8, 9, 7], [7, 8, 9]), ([10, 7], [7, 10]), ([11, 7], [7, 11]), ([12, 7, 7], [7, 12]), ([13, 7], [7, 13]), ([7, 14], [7, 14]), ([15, 13], [15]), ([16], [16]), ([16], [16]), ([17, 18, 16], [16, 17, 18]), ([19, 16], [16, 19]), ([20, 16], [16, 20]), ([21, 16], [16, 21]), ([16, 22], [16, 22]), ([23, 16], [23]), ([24], [24]), ([25, 24], [24, 25]), ([26, 24, 24], [24, 26]), ([27], [27]), ([27], [27]), ([29, 27], [27, 29]), ([28, 30, 27], [27, 28, 30]), ([31, 27], [27, 31]), ([32, 27], [27, 32]), ([27], [27]), ([27], [27]), ([34, 35, 27], [27, 34, 35]), ([36, 27], [27, 36]), ([37, 27], [27, 37]), ([33, 38, 27, 27], [27, 33, 38]), ([39, 27], [27, 39]), ([27, 40, 24], [24, 27, 40]), ([24, 41], [24, 41])])
def erasureref06_Valid.B6 : List Nat := [0, 0, 3, 7, 15, 31, 63, 127, 255, 255, 1023, 2047, 4095, 8191, 16383, 32767, 65535, 131071, 131071, 524287, 1048575, 2097151, 4194303, 8388607, 16777215, 33554431, 67108863, 134217727, 268435455, 268435455, 805306367, 2147483647, 4294967295, 8589934591, 268435455, 268435455, 51808043007, 120527519743, 257966473215, 549755813887, 1099511627775, 2199023255551, 4398046511103]
theorem erasureref06_Valid.tab6 : rtab .any (opsOf Try.f38 6) = erasureref06_Valid.T6 := by kernel_rfl
theorem erasureref06_Valid.bits6 : waitsOk erasureref06_Valid.T6.2 erasureref06_Valid.B6 = true := by kernel_rfl
set_option maxHeartbeats 8000000 in
set_option maxRecDepth 100000 in
theorem erasureref06_Valid.calls (k : Nat) (A0 : Option Addr) (c0 : Nat) (l0 : List (S41)) (r : Bool) (w : World) (hr0 : Kd.C k41 w A0 l0.length l0) (hc0 : l0.length ≤ c0) (h : erasureref06_Valid.f k l0 = some r) :
  Calls Try.prog 38 #[.slice A0 l0.length c0] w fun e w' => e = .returned (.bool r) ∧ Below w.heap.size w w' := by
 have HR0 := Aside0.mk hr0
 have HC0 := Aside0.mk hc0
 clear hr0 hc0
 have HB := Aside0.mk (Below.refl w.heap.size w)
 have H : (if (l0.length : Int) > 4096 then (some false) else (erasureref06_Valid.l0 k l0 0)) = some r := h
 clear h
 by_cases c2 : (l0.length : Int) > 4096
 ·rw [if_pos c2] at H
  have c2b0 : decide (4096 < (l0.length : Int)) = true := decide_eq_true c2
  have c2b1 : decide (4096 < l0.length) = true := decide_eq_true (by omega)
  clear c2
  obtain rfl := Option.some.inj H
  go_enter Try.func38, Try.ntmps38
  go_wp2
  go_ret
  exact ⟨by first | rfl | (simp [errW_none, errW_some] <;> rfl) | (simp [*, errW_none, errW_some] <;> rfl), by repeat (first | (with_reducible first | exact HB.out | apply below_alloc | apply pw_below_drewN | apply below_drew1) | exact HB.out)⟩
 ·rw [if_neg c2] at H
  have c2b0 : decide (4096 < (l0.length : Int)) = false := decide_eq_false c2
  have c2b1 : decide (4096 < l0.length) = false := decide_eq_false (by omega)
  clear c2
  have H' := Aside0.mk H
  clear H
  go_enter Try.func38, Try.ntmps38
  go_wp2
  go_loopg [3] k (fun kq v3 w' => ∃ (x3_1 : Int), v3 = .int .i64 x3_1 ∧ Aside0 (erasureref06_Valid.l0 kq l0 x3_1 = some r) ∧ Aside0 (kq ≤ k) ∧ Aside0 (Below w.heap.size w w'))
  case atStart => exact ⟨(0), (by first | rfl | (simp; done) | (simp [*]; done)), H', ⟨Nat.le_refl _⟩, ⟨by repeat (first | (with_reducible first | exact HB.out | apply below_alloc | apply pw_below_drewN | apply below_drew1) | exact HB.out)⟩⟩
  case round =>
   clear H'
   try clear c2
   try clear c2b0
   try clear c2b1
   try clear p2
   obtain ⟨x3_1, rfl, HA, HK1, HB⟩ := hrel
   cases gk with
   | zero => exact absurd HA.out (by simp [erasureref06_Valid.l0])
   | succ k1 =>
    have H := HA.out
    clear HA
    simp only [erasureref06_Valid.l0] at H
    by_cases c3 : x3_1 < (l0.length : Int)
    ·rw [if_pos c3] at H
     have c3b0 : decide (x3_1 < (l0.length : Int)) = true := decide_eq_true c3
     clear c3
     by_cases c4 : 0 ≤ x3_1
     ·rw [if_pos c4] at H
      have c4b0 : decide (0 ≤ x3_1) = true := decide_eq_true c4
      clear c4
      replace H := Option.bind_eq_some_iff.mp H
      obtain ⟨t257, A50, H⟩ := H
      replace H : (if t257 = true then ((erasureref06_countOK.f ((rd_T41 l0 x3_1).f1)).bind fun t259 => (if t259 = true then (if ((rd_T41 l0 x3_1).f1) = 0 then (some false) else (if x3_1 > 0 then (if 0 ≤ (wrap64 (x3_1 - 1)) then (if (wrap64 (x3_1 - 1)) < (l0.length : Int) then ((erasureref01_CompareRows.f k1 ((rd_T41 l0 (wrap64 (x3_1 - 1))).f0) ((rd_T41 l0 x3_1).f0)).bind fun t263 => (if t263 ≥ 0 then (some false) else (erasureref06_Valid.l0 k1 l0 (wrap64 (x3_1 + 1))))) else (none)) else (none)) else (erasureref06_Valid.l0 k1 l0 (wrap64 (x3_1 + 1))))) else (some false))) else (some false)) = some r := H
      have A5 := Aside0.mk A50
      clear A50
      by_cases c6 : t257 = true
      ·subst c6
       have H1 : ((erasureref06_countOK.f ((rd_T41 l0 x3_1).f1)).bind fun t259 => (if t259 = true then (if ((rd_T41 l0 x3_1).f1) = 0 then (some false) else (if x3_1 > 0 then (if 0 ≤ (wrap64 (x3_1 - 1)) then (if (wrap64 (x3_1 - 1)) < (l0.length : Int) then ((erasureref01_CompareRows.f k1 ((rd_T41 l0 (wrap64 (x3_1 - 1))).f0) ((rd_T41 l0 x3_1).f0)).bind fun t263 => (if t263 ≥ 0 then (some false) else (erasureref06_Valid.l0 k1 l0 (wrap64 (x3_1 + 1))))) else (none)) else (none)) else (erasureref06_Valid.l0 k1 l0 (wrap64 (x3_1 + 1))))) else (some false))) = some r := by rw [if_pos rfl] at H; exact H
       clear H
       have H := H1
       clear H1
       replace H := Option.bind_eq_some_iff.mp H
       obtain ⟨t259, A70, H⟩ := H
       replace H : (if t259 = true then (if ((rd_T41 l0 x3_1).f1) = 0 then (some false) else (if x3_1 > 0 then (if 0 ≤ (wrap64 (x3_1 - 1)) then (if (wrap64 (x3_1 - 1)) < (l0.length : Int) then ((erasureref01_CompareRows.f k1 ((rd_T41 l0 (wrap64 (x3_1 - 1))).f0) ((rd_T41 l0 x3_1).f0)).bind fun t263 => (if t263 ≥ 0 then (some false) else (erasureref06_Valid.l0 k1 l0 (wrap64 (x3_1 + 1))))) else (none)) else (none)) else (erasureref06_Valid.l0 k1 l0 (wrap64 (x3_1 + 1))))) else (some false)) = some r := H
       have A7 := Aside0.mk A70
       clear A70
       by_cases c8 : t259 = true
       ·subst c8
        have H1 : (if ((rd_T41 l0 x3_1).f1) = 0 then (some false) else (if x3_1 > 0 then (if 0 ≤ (wrap64 (x3_1 - 1)) then (if (wrap64 (x3_1 - 1)) < (l0.length : Int) then ((erasureref01_CompareRows.f k1 ((rd_T41 l0 (wrap64 (x3_1 - 1))).f0) ((rd_T41 l0 x3_1).f0)).bind fun t263 => (if t263 ≥ 0 then (some false) else (erasureref06_Valid.l0 k1 l0 (wrap64 (x3_1 + 1))))) else (none)) else (none)) else (erasureref06_Valid.l0 k1 l0 (wrap64 (x3_1 + 1))))) = some r := by rw [if_pos rfl] at H; exact H
        clear H
        have H := H1
        clear H1
        by_cases c9 : ((rd_T41 l0 x3_1).f1) = 0
        ·rw [if_pos c9] at H
         have c9b0 : (((rd_T41 l0 x3_1).f1) == 0) = true := beq_iff_eq.mpr c9
         have c9b1 : (((rd_T41 l0 x3_1).f1) != 0) = false := bne_eq_false_iff_eq.mpr c9
         clear c9
         obtain rfl := Option.some.inj H
         try go_wp2
         have n0_ := Aside0.mk (below_drew1 HB.out)
         clear HB
         have HB := n0_
         clear n0_
         have p256 : 0 ≤ (x3_1 : Int) := of_decide_eq_true (by first | (with_reducible assumption) | assumption)
         have q256 : x3_1 < (l0.length : Int) := of_decide_eq_true (by first | (with_reducible assumption) | assumption)
         obtain ⟨ad256, A256_0, c256_0, e256, hx256_0, hx256_1, hl256_0, hi256_0⟩ := at_T41 HR0.out x3_1 p256 q256
         have hw256_1 := hx256_1
         have hw256_0 := hx256_0
         cases e256
         replace hx256_0 := (HB.out.cell (World.block_lt_of_cell? w _ hx256_0)).trans hx256_0
         replace hx256_1 := (HB.out.cell (World.block_lt_of_cell? w _ hx256_1)).trans hx256_1
         have HR256_0 := Aside0.mk hi256_0
         have HC256_0 := Aside0.mk hl256_0
         clear hi256_0 hl256_0
         replace p256 := eq_true p256
         replace q256 := eq_true q256
         have p258 : 0 ≤ (x3_1 : Int) := of_decide_eq_true (by first | (with_reducible assumption) | assumption)
         have q258 : x3_1 < (l0.length : Int) := of_decide_eq_true (by first | (with_reducible assumption) | assumption)
         obtain ⟨ad258, A258_0, c258_0, e258, hx258_0, hx258_1, hl258_0, hi258_0⟩ := at_T41 HR0.out x3_1 p258 q258
         have hw258_1 := hx258_1
         have hw258_0 := hx258_0
         obtain rfl : ad256 = ad258 := (by injection e258)
         replace hx258_0 := (HB.out.cell (World.block_lt_of_cell? w _ hx258_0)).trans hx258_0
         replace hx258_1 := (HB.out.cell (World.block_lt_of_cell? w _ hx258_1)).trans hx258_1
         have HR258_0 := Aside0.mk hi258_0
         have HC258_0 := Aside0.mk hl258_0
         clear hi258_0 hl258_0
         replace p258 := eq_true p258
         replace q258 := eq_true q258
         have ea_ := Option.some.inj (hx256_0.symm.trans hx258_0)
         injection ea_ with ea_ en_ ec_
         subst ea_
         subst ec_
         clear en_
         have p260 : 0 ≤ (x3_1 : Int) := of_decide_eq_true (by first | (with_reducible assumption) | assumption)
         have q260 : x3_1 < (l0.length : Int) := of_decide_eq_true (by first | (with_reducible assumption) | assumption)
         obtain ⟨ad260, A260_0, c260_0, e260, hx260_0, hx260_1, hl260_0, hi260_0⟩ := at_T41 HR0.out x3_1 p260 q260
         have hw260_1 := hx260_1
         have hw260_0 := hx260_0
         obtain rfl : ad256 = ad260 := (by injection e260)
         replace hx260_0 := (HB.out.cell (World.block_lt_of_cell? w _ hx260_0)).trans hx260_0
         replace hx260_1 := (HB.out.cell (World.block_lt_of_cell? w _ hx260_1)).trans hx260_1
         have HR260_0 := Aside0.mk hi260_0
         have HC260_0 := Aside0.mk hl260_0
         clear hi260_0 hl260_0
         replace p260 := eq_true p260
         replace q260 := eq_true q260
         have ea_ := Option.some.inj (hx256_0.symm.trans hx260_0)
         injection ea_ with ea_ en_ ec_
         subst ea_
         subst ec_
         clear en_
         refine start_ (n := 43) (S := fun w' => w'.cell? (ad256.add ((x3_1).toNat * 2)) = some (.slice A256_0 ((rd_T41 l0 x3_1).f0).length c256_0) ∧ w'.cell? ⟨(ad256.add ((x3_1).toNat * 2)).block, (ad256.add ((x3_1).toNat * 2)).off + 1, none⟩ = some (.int .i64 ((rd_T41 l0 x3_1).f1)) ∧ w'.cell? (ad256.add ((x3_1).toNat * 2)) = some (.slice A256_0 ((rd_T41 l0 x3_1).f0).length c256_0) ∧ w'.cell? ⟨(ad256.add ((x3_1).toNat * 2)).block, (ad256.add ((x3_1).toNat * 2)).off + 1, none⟩ = some (.int .i64 ((rd_T41 l0 x3_1).f1)) ∧ w'.cell? (ad256.add ((x3_1).toNat * 2)) = some (.slice A256_0 ((rd_T41 l0 x3_1).f0).length c256_0) ∧ w'.cell? ⟨(ad256.add ((x3_1).toNat * 2)).block, (ad256.add ((x3_1).toNat * 2)).off + 1, none⟩ = some (.int .i64 ((rd_T41 l0 x3_1).f1))) (ds := []) #[false, false, false, false, false, false, false, false, false, false, false, false, false, false, false, false, false, false, false, false, false, false, false, false, false, false, false, false, false, false, false, false, false, false, false, false, false, false, false, false, false, false, false] (by kernel_rfl) rfl rfl ⟨((HB.out.cell (World.block_lt_of_cell? w _ hw256_0)).trans hw256_0), ((HB.out.cell (World.block_lt_of_cell? w _ hw256_1)).trans hw256_1), ((HB.out.cell (World.block_lt_of_cell? w _ hw258_0)).trans hw258_0), ((HB.out.cell (World.block_lt_of_cell? w _ hw258_1)).trans hw258_1), ((HB.out.cell (World.block_lt_of_cell? w _ hw260_0)).trans hw260_0), ((HB.out.cell (World.block_lt_of_cell? w _ hw260_1)).trans hw260_1)⟩ (fun hHeld => ?_); refine with_tabW erasureref06_Valid.tab6 erasureref06_Valid.bits6 (fun HT_ HW_ => ?_)
         generalize wr.drew = w10 at HB HR256_0 HR258_0 HR260_0 hx256_0 hx256_1 hx258_0 hx258_1 hx260_0 hx260_1 hHeld ⊢
         refine pu (i := 0) (N := some 13) (bl 43 1) (any_of HT_.out (by kernel_rfl)) ?_
         refine pu (i := 1) (N := some 14) (bl 43 3) (any_of HT_.out (by kernel_rfl)) ?_
         refine pu (i := 2) (N := some 15) (bl 43 7) (any_of HT_.out (by kernel_rfl)) ?_
         refine pu (i := 3) (N := some 16) (bl 43 15) (any_of HT_.out (by kernel_rfl)) ?_
         refine ta (i := 4) (N := some 17) (bl 43 31) (take_ofW HT_.out HW_.out (by kernel_rfl)) hHeld ?_
         refine one_ (i := 5) (N := some 18) (bl 43 63) rfl rfl (one_of HT_.out (by kernel_rfl)) (by decide) (fun K hK => ?_)
         refine goes_ Try.func31 (by kernel_rfl) rfl #[.slice A256_0 ((rd_T41 l0 x3_1).f0).length c256_0] (by rfl) rfl rfl (by (try simp only [List.map_toArray, List.map_cons, List.map_nil]); first | done | rfl | (simp only [List.length_drop, List.length_take]; rfl)) ?_
         with_reducible refine (erasureref01_ValidRow.calls k1 _ _ ((rd_T41 l0 x3_1).f0) true _ ?side1 ?side2 A5.out).mono ?_
         (case side1 => repeat (first | exact (Kd.C_below HR256_0.out HB.out) | (with_reducible refine Kd.C_alloc ?_ _) | (with_reducible refine Kd.C_drewN ?_ _) | (with_reducible refine Kd.C_drew ?_)))
         (case side2 => exact HC256_0.out)
         rintro e w11 ⟨rfl, hb⟩
         refine ⟨_, rfl, ?_⟩
         have n0_ := Aside0.mk (below_step (by repeat (first | (with_reducible first | exact HB.out | apply below_alloc | apply pw_below_drewN | apply below_drew1) | exact HB.out)) hb)
         clear HB
         have HB := n0_
         clear n0_
         (try clear hb)
         (try clear hb2)
         (try clear hk)
         (try clear hi)
         refine hK.out _ _ ⟨((HB.out.cell (World.block_lt_of_cell? w _ hw256_0)).trans hw256_0), ((HB.out.cell (World.block_lt_of_cell? w _ hw256_1)).trans hw256_1), ((HB.out.cell (World.block_lt_of_cell? w _ hw258_0)).trans hw258_0), ((HB.out.cell (World.block_lt_of_cell? w _ hw258_1)).trans hw258_1), ((HB.out.cell (World.block_lt_of_cell? w _ hw260_0)).trans hw260_0), ((HB.out.cell (World.block_lt_of_cell? w _ hw260_1)).trans hw260_1)⟩ (fun hHeld => ?_)
         clear hK K
         refine norm_ (a' := ?_) ?_ ?_
         rotate_left
         ·show Act.put _ (some 18) _ = _
          simp only [Act.put, List.setIfInBounds_toArray, List.set_cons_zero, List.set_cons_succ, i64_w, i32_w]
          rfl
         refine pu (i := 6) (N := some 19) (bl 43 127) (any_of HT_.out (by kernel_rfl)) ?_
         refine pu (i := 7) (N := some 20) (bl 43 255) (any_of HT_.out (by kernel_rfl)) ?_
         refine pu (i := 8) (N := some 21) (bl 43 511) (any_of HT_.out (by kernel_rfl)) ?_
         refine pu (i := 9) (N := some 22) (bl 43 1023) (any_of HT_.out (by kernel_rfl)) ?_
         refine pu (i := 10) (N := some 23) (bl 43 2047) (any_of HT_.out (by kernel_rfl)) ?_
         refine pu (i := 11) (N := some 24) (bl 43 4095) (any_of HT_.out (by kernel_rfl)) ?_
         refine ta (i := 12) (N := some 25) (bl 43 8191) (take_ofW HT_.out HW_.out (by kernel_rfl)) hHeld ?_
         refine one_ (i := 13) (N := some 26) (bl 43 16383) rfl rfl (one_of HT_.out (by kernel_rfl)) (by decide) (fun K hK => ?_)
         refine goes_ Try.func32 (by kernel_rfl) rfl #[.int .i64 ((rd_T41 l0 x3_1).f1)] (by rfl) rfl rfl (by (try simp only [List.map_toArray, List.map_cons, List.map_nil]); first | done | rfl | (simp only [List.length_drop, List.length_take]; rfl)) ?_
         with_reducible refine (erasureref06_countOK.calls ((rd_T41 l0 x3_1).f1) true _ A7.out).mono ?_
         rintro e w' ⟨rfl, ⟨nd, rfl⟩⟩
         refine ⟨_, rfl, ?_⟩
         refine hK.out _ _ ⟨((HB.out.cell (World.block_lt_of_cell? w _ hw256_0)).trans hw256_0), ((HB.out.cell (World.block_lt_of_cell? w _ hw256_1)).trans hw256_1), ((HB.out.cell (World.block_lt_of_cell? w _ hw258_0)).trans hw258_0), ((HB.out.cell (World.block_lt_of_cell? w _ hw258_1)).trans hw258_1), ((HB.out.cell (World.block_lt_of_cell? w _ hw260_0)).trans hw260_0), ((HB.out.cell (World.block_lt_of_cell? w _ hw260_1)).trans hw260_1)⟩ (fun hHeld => ?_)
         clear hK K
         refine norm_ (a' := ?_) ?_ ?_
         rotate_left
         ·show Act.put _ (some 26) _ = _
          simp only [Act.put, List.setIfInBounds_toArray, List.set_cons_zero, List.set_cons_succ, i64_w, i32_w]
          rfl
         refine pu (i := 14) (N := some 27) (bl 43 32767) (any_of HT_.out (by kernel_rfl)) ?_
         refine pu (i := 15) (N := some 28) (bl 43 65535) (any_of HT_.out (by kernel_rfl)) ?_
         refine pu (i := 16) (N := some 29) (bl 43 131071) (any_of HT_.out (by kernel_rfl)) ?_
         refine pu (i := 17) (N := some 30) (bl 43 262143) (any_of HT_.out (by kernel_rfl)) ?_
         refine pu (i := 18) (N := some 31) (bl 43 524287) (any_of HT_.out (by kernel_rfl)) ?_
         refine pu (i := 19) (N := some 32) (bl 43 1048575) (any_of HT_.out (by kernel_rfl)) ?_
         refine pu (i := 20) (N := some 33) (bl 43 2097151) (any_of HT_.out (by kernel_rfl)) ?_
         refine ta (i := 21) (N := some 34) (bl 43 4194303) (take_ofW HT_.out HW_.out (by kernel_rfl)) hHeld ?_
         refine pu (i := 22) (N := some 35) (bl 43 8388607) (any_of HT_.out (by kernel_rfl)) ?_
         refine pu (i := 23) (N := some 36) (bl 43 16777215) (any_of HT_.out (by kernel_rfl)) ?_
         refine pu (i := 24) (N := some 37) (bl 43 33554431) (any_of HT_.out (by kernel_rfl)) ?_
         refine po (i := 25) (N := some 38) (bl 43 67108863) (any_of HT_.out (by kernel_rfl)) ?_
         refine po (i := 26) (N := some 39) (bl 43 134217727) (any_of HT_.out (by kernel_rfl)) ?_
         refine po (i := 27) (N := some 40) (bl 43 268435455) (any_of HT_.out (by kernel_rfl)) ?_
         refine po (i := 28) (N := some 41) (bl 43 536870911) (any_of HT_.out (by kernel_rfl)) ?_
         refine po (i := 29) (N := some 42) (bl 43 1073741823) (any_of HT_.out (by kernel_rfl)) ?_
         refine po (i := 30) (N := some 43) (bl 43 2147483647) (any_of HT_.out (by kernel_rfl)) ?_
         refine po (i := 31) (N := some 44) (bl 43 4294967295) (any_of HT_.out (by kernel_rfl)) ?_
         refine po (i := 32) (N := some 45) (bl 43 8589934591) (any_of HT_.out (by kernel_rfl)) ?_
         refine po (i := 33) (N := some 46) (bl 43 17179869183) (any_of HT_.out (by kernel_rfl)) ?_
         refine po (i := 34) (N := some 47) (bl 43 34359738367) (any_of HT_.out (by kernel_rfl)) ?_
         refine po (i := 35) (N := some 48) (bl 43 68719476735) (any_of HT_.out (by kernel_rfl)) ?_
         refine po (i := 36) (N := some 49) (bl 43 137438953471) (any_of HT_.out (by kernel_rfl)) ?_
         refine po (i := 37) (N := some 50) (bl 43 274877906943) (any_of HT_.out (by kernel_rfl)) ?_
         refine po (i := 38) (N := some 51) (bl 43 549755813887) (any_of HT_.out (by kernel_rfl)) ?_
         refine po (i := 39) (N := some 52) (bl 43 1099511627775) (any_of HT_.out (by kernel_rfl)) ?_
         refine po (i := 40) (N := some 53) (bl 43 2199023255551) (any_of HT_.out (by kernel_rfl)) ?_
         refine po (i := 41) (N := some 54) (bl 43 4398046511103) (any_of HT_.out (by kernel_rfl)) ?_
         refine pu (i := 42) (N := some 55) (bl 43 8796093022207) (any_of HT_.out (by kernel_rfl)) ?_
         refine done_ (done_of HT_.out (by kernel_rfl)) ?_
         try go_wp2
         go_ret
         exact ⟨by first | rfl | (simp [errW_none, errW_some] <;> rfl) | (simp [*, errW_none, errW_some] <;> rfl), by repeat (first | (with_reducible first | exact HB.out | apply below_alloc | apply pw_below_drewN | apply below_drew1) | exact HB.out)⟩
        ·rw [if_neg c9] at H
         have c9b0 : (((rd_T41 l0 x3_1).f1) == 0) = false := beq_eq_false_iff_ne.mpr c9
         have c9b1 : (((rd_T41 l0 x3_1).f1) != 0) = true := bne_iff_ne.mpr c9
         by_cases c12 : x3_1 > 0
         ·rw [if_pos c12] at H
          have c12b0 : decide (0 < x3_1) = true := decide_eq_true c12
          clear c12
          obtain ⟨ji13, hji13⟩ : ∃ j_ : Int, (wrap64 (x3_1 - 1)) = j_ := ⟨_, rfl⟩
          replace H : (if 0 ≤ (ji13) then (if (ji13) < (l0.length : Int) then ((erasureref01_CompareRows.f k1 ((rd_T41 l0 (ji13)).f0) ((rd_T41 l0 x3_1).f0)).bind fun t263 => (if t263 ≥ 0 then (some false) else (erasureref06_Valid.l0 k1 l0 (wrap64 (x3_1 + 1))))) else (none)) else (none)) = some r := by first | (rw [hji13] at H; exact H) | (simp only [hji13] at H ⊢; exact H)
          (try rw [hji13] at A5)
          (try rw [hji13] at A7)
          have hji13w : (IntKind.i64.wrap (x3_1 - 1)) = ji13 := (i64_w _).trans hji13
          by_cases c14 : 0 ≤ (ji13)
          ·rw [if_pos c14] at H
           have c14b0 : decide (0 ≤ (ji13)) = true := decide_eq_true c14
           clear c14
           by_cases c15 : (ji13) < (l0.length : Int)
           ·rw [if_pos c15] at H
            have c15b0 : decide ((ji13) < (l0.length : Int)) = true := decide_eq_true c15
            clear c15
            replace H := Option.bind_eq_some_iff.mp H
            obtain ⟨t263, A160, H⟩ := H
            replace H : (if t263 ≥ 0 then (some false) else (erasureref06_Valid.l0 k1 l0 (wrap64 (x3_1 + 1)))) = some r := H
            have A16 := Aside0.mk A160
            clear A160
            by_cases c17 : t263 ≥ 0
            ·rw [if_pos c17] at H
             have c17b0 : decide (0 ≤ t263) = true := decide_eq_true c17
             clear c17
             obtain rfl := Option.some.inj H
             try go_wp2
             have n0_ := Aside0.mk (below_drew1 HB.out)
             clear HB
             have HB := n0_
             clear n0_
             have p256 : 0 ≤ (x3_1 : Int) := of_decide_eq_true (by first | (with_reducible assumption) | assumption)
             have q256 : x3_1 < (l0.length : Int) := of_decide_eq_true (by first | (with_reducible assumption) | assumption)
             obtain ⟨ad256, A256_0, c256_0, e256, hx256_0, hx256_1, hl256_0, hi256_0⟩ := at_T41 HR0.out x3_1 p256 q256
             have hw256_1 := hx256_1
             have hw256_0 := hx256_0
             cases e256
             replace hx256_0 := (HB.out.cell (World.block_lt_of_cell? w _ hx256_0)).trans hx256_0
             replace hx256_1 := (HB.out.cell (World.block_lt_of_cell? w _ hx256_1)).trans hx256_1
             have HR256_0 := Aside0.mk hi256_0
             have HC256_0 := Aside0.mk hl256_0
             clear hi256_0 hl256_0
             replace p256 := eq_true p256
             replace q256 := eq_true q256
             have p258 : 0 ≤ (x3_1 : Int) := of_decide_eq_true (by first | (with_reducible assumption) | assumption)
             have q258 : x3_1 < (l0.length : Int) := of_decide_eq_true (by first | (with_reducible assumption) | assumption)
             obtain ⟨ad258, A258_0, c258_0, e258, hx258_0, hx258_1, hl258_0, hi258_0⟩ := at_T41 HR0.out x3_1 p258 q258
             have hw258_1 := hx258_1
             have hw258_0 := hx258_0
             obtain rfl : ad256 = ad258 := (by injection e258)
             replace hx258_0 := (HB.out.cell (World.block_lt_of_cell? w _ hx258_0)).trans hx258_0
             replace hx258_1 := (HB.out.cell (World.block_lt_of_cell? w _ hx258_1)).trans hx258_1
             have HR258_0 := Aside0.mk hi258_0
             have HC258_0 := Aside0.mk hl258_0
             clear hi258_0 hl258_0
             replace p258 := eq_true p258
             replace q258 := eq_true q258
             have ea_ := Option.some.inj (hx256_0.symm.trans hx258_0)
             injection ea_ with ea_ en_ ec_
             subst ea_
             subst ec_
             clear en_
             have p260 : 0 ≤ (x3_1 : Int) := of_decide_eq_true (by first | (with_reducible assumption) | assumption)
             have q260 : x3_1 < (l0.length : Int) := of_decide_eq_true (by first | (with_reducible assumption) | assumption)
             obtain ⟨ad260, A260_0, c260_0, e260, hx260_0, hx260_1, hl260_0, hi260_0⟩ := at_T41 HR0.out x3_1 p260 q260
             have hw260_1 := hx260_1
             have hw260_0 := hx260_0
             obtain rfl : ad256 = ad260 := (by injection e260)
             replace hx260_0 := (HB.out.cell (World.block_lt_of_cell? w _ hx260_0)).trans hx260_0
             replace hx260_1 := (HB.out.cell (World.block_lt_of_cell? w _ hx260_1)).trans hx260_1
             have HR260_0 := Aside0.mk hi260_0
             have HC260_0 := Aside0.mk hl260_0
             clear hi260_0 hl260_0
             replace p260 := eq_true p260
             replace q260 := eq_true q260
             have ea_ := Option.some.inj (hx256_0.symm.trans hx260_0)
             injection ea_ with ea_ en_ ec_
             subst ea_
             subst ec_
             clear en_
             have p261 : 0 ≤ ((ji13) : Int) := of_decide_eq_true (by first | (with_reducible assumption) | assumption)
             have q261 : (ji13) < (l0.length : Int) := of_decide_eq_true (by first | (with_reducible assumption) | assumption)
             obtain ⟨ad261, A261_0, c261_0, e261, hx261_0, hx261_1, hl261_0, hi261_0⟩ := at_T41 HR0.out (ji13) p261 q261
             have hw261_1 := hx261_1
             have hw261_0 := hx261_0
             obtain rfl : ad256 = ad261 := (by injection e261)
             replace hx261_0 := (HB.out.cell (World.block_lt_of_cell? w _ hx261_0)).trans hx261_0
             replace hx261_1 := (HB.out.cell (World.block_lt_of_cell? w _ hx261_1)).trans hx261_1
             have HR261_0 := Aside0.mk hi261_0
             have HC261_0 := Aside0.mk hl261_0
             clear hi261_0 hl261_0
             replace p261 := eq_true p261
             replace q261 := eq_true q261
             have p262 : 0 ≤ (x3_1 : Int) := of_decide_eq_true (by first | (with_reducible assumption) | assumption)
             have q262 : x3_1 < (l0.length : Int) := of_decide_eq_true (by first | (with_reducible assumption) | assumption)
             obtain ⟨ad262, A262_0, c262_0, e262, hx262_0, hx262_1, hl262_0, hi262_0⟩ := at_T41 HR0.out x3_1 p262 q262
             have hw262_1 := hx262_1
             have hw262_0 := hx262_0
             obtain rfl : ad256 = ad262 := (by injection e262)
             replace hx262_0 := (HB.out.cell (World.block_lt_of_cell? w _ hx262_0)).trans hx262_0
             replace hx262_1 := (HB.out.cell (World.block_lt_of_cell? w _ hx262_1)).trans hx262_1
             have HR262_0 := Aside0.mk hi262_0
             have HC262_0 := Aside0.mk hl262_0
             clear hi262_0 hl262_0
             replace p262 := eq_true p262
             replace q262 := eq_true q262
             have ea_ := Option.some.inj (hx256_0.symm.trans hx262_0)
             injection ea_ with ea_ en_ ec_
             subst ea_
             subst ec_
             clear en_
             refine start_ (n := 43) (S := fun w' => w'.cell? (ad256.add ((x3_1).toNat * 2)) = some (.slice A256_0 ((rd_T41 l0 x3_1).f0).length c256_0) ∧ w'.cell? ⟨(ad256.add ((x3_1).toNat * 2)).block, (ad256.add ((x3_1).toNat * 2)).off + 1, none⟩ = some (.int .i64 ((rd_T41 l0 x3_1).f1)) ∧ w'.cell? (ad256.add ((x3_1).toNat * 2)) = some (.slice A256_0 ((rd_T41 l0 x3_1).f0).length c256_0) ∧ w'.cell? ⟨(ad256.add ((x3_1).toNat * 2)).block, (ad256.add ((x3_1).toNat * 2)).off + 1, none⟩ = some (.int .i64 ((rd_T41 l0 x3_1).f1)) ∧ w'.cell? (ad256.add ((x3_1).toNat * 2)) = some (.slice A256_0 ((rd_T41 l0 x3_1).f0).length c256_0) ∧ w'.cell? ⟨(ad256.add ((x3_1).toNat * 2)).block, (ad256.add ((x3_1).toNat * 2)).off + 1, none⟩ = some (.int .i64 ((rd_T41 l0 x3_1).f1)) ∧ w'.cell? (ad256.add (((ji13)).toNat * 2)) = some (.slice A261_0 ((rd_T41 l0 (ji13)).f0).length c261_0) ∧ w'.cell? ⟨(ad256.add (((ji13)).toNat * 2)).block, (ad256.add (((ji13)).toNat * 2)).off + 1, none⟩ = some (.int .i64 ((rd_T41 l0 (ji13)).f1)) ∧ w'.cell? (ad256.add ((x3_1).toNat * 2)) = some (.slice A256_0 ((rd_T41 l0 x3_1).f0).length c256_0) ∧ w'.cell? ⟨(ad256.add ((x3_1).toNat * 2)).block, (ad256.add ((x3_1).toNat * 2)).off + 1, none⟩ = some (.int .i64 ((rd_T41 l0 x3_1).f1))) (ds := []) #[false, false, false, false, false, false, false, false, false, false, false, false, false, false, false, false, false, false, false, false, false, false, false, false, false, false, false, false, false, false, false, false, false, false, false, false, false, false, false, false, false, false, false] (by kernel_rfl) rfl rfl ⟨((HB.out.cell (World.block_lt_of_cell? w _ hw256_0)).trans hw256_0), ((HB.out.cell (World.block_lt_of_cell? w _ hw256_1)).trans hw256_1), ((HB.out.cell (World.block_lt_of_cell? w _ hw258_0)).trans hw258_0), ((HB.out.cell (World.block_lt_of_cell? w _ hw258_1)).trans hw258_1), ((HB.out.cell (World.block_lt_of_cell? w _ hw260_0)).trans hw260_0), ((HB.out.cell (World.block_lt_of_cell? w _ hw260_1)).trans hw260_1), ((HB.out.cell (World.block_lt_of_cell? w _ hw261_0)).trans hw261_0), ((HB.out.cell (World.block_lt_of_cell? w _ hw261_1)).trans hw261_1), ((HB.out.cell (World.block_lt_of_cell? w _ hw262_0)).trans hw262_0), ((HB.out.cell (World.block_lt_of_cell? w _ hw262_1)).trans hw262_1)⟩ (fun hHeld => ?_); refine with_tabW erasureref06_Valid.tab6 erasureref06_Valid.bits6 (fun HT_ HW_ => ?_)
             generalize wr.drew = w18 at HB HR256_0 HR258_0 HR260_0 HR261_0 HR262_0 hx256_0 hx256_1 hx258_0 hx258_1 hx260_0 hx260_1 hx261_0 hx261_1 hx262_0 hx262_1 hHeld ⊢
             refine pu (i := 0) (N := some 13) (bl 43 1) (any_of HT_.out (by kernel_rfl)) ?_
             refine pu (i := 1) (N := some 14) (bl 43 3) (any_of HT_.out (by kernel_rfl)) ?_
             refine pu (i := 2) (N := some 15) (bl 43 7) (any_of HT_.out (by kernel_rfl)) ?_
             refine pu (i := 3) (N := some 16) (bl 43 15) (any_of HT_.out (by kernel_rfl)) ?_
             refine ta (i := 4) (N := some 17) (bl 43 31) (take_ofW HT_.out HW_.out (by kernel_rfl)) hHeld ?_
             refine one_ (i := 5) (N := some 18) (bl 43 63) rfl rfl (one_of HT_.out (by kernel_rfl)) (by decide) (fun K hK => ?_)
             refine goes_ Try.func31 (by kernel_rfl) rfl #[.slice A256_0 ((rd_T41 l0 x3_1).f0).length c256_0] (by rfl) rfl rfl (by (try simp only [List.map_toArray, List.map_cons, List.map_nil]); first | done | rfl | (simp only [List.length_drop, List.length_take]; rfl)) ?_
             with_reducible refine (erasureref01_ValidRow.calls k1 _ _ ((rd_T41 l0 x3_1).f0) true _ ?side1 ?side2 A5.out).mono ?_
             (case side1 => repeat (first | exact (Kd.C_below HR256_0.out HB.out) | (with_reducible refine Kd.C_alloc ?_ _) | (with_reducible refine Kd.C_drewN ?_ _) | (with_reducible refine Kd.C_drew ?_)))
             (case side2 => exact HC256_0.out)
             rintro e w19 ⟨rfl, hb⟩
             refine ⟨_, rfl, ?_⟩
             have n0_ := Aside0.mk (below_step (by repeat (first | (with_reducible first | exact HB.out | apply below_alloc | apply pw_below_drewN | apply below_drew1) | exact HB.out)) hb)
             clear HB
             have HB := n0_
             clear n0_
             (try clear hb)
             (try clear hb2)
             (try clear hk)
             (try clear hi)
             refine hK.out _ _ ⟨((HB.out.cell (World.block_lt_of_cell? w _ hw256_0)).trans hw256_0), ((HB.out.cell (World.block_lt_of_cell? w _ hw256_1)).trans hw256_1), ((HB.out.cell (World.block_lt_of_cell? w _ hw258_0)).trans hw258_0), ((HB.out.cell (World.block_lt_of_cell? w _ hw258_1)).trans hw258_1), ((HB.out.cell (World.block_lt_of_cell? w _ hw260_0)).trans hw260_0), ((HB.out.cell (World.block_lt_of_cell? w _ hw260_1)).trans hw260_1), ((HB.out.cell (World.block_lt_of_cell? w _ hw261_0)).trans hw261_0), ((HB.out.cell (World.block_lt_of_cell? w _ hw261_1)).trans hw261_1), ((HB.out.cell (World.block_lt_of_cell? w _ hw262_0)).trans hw262_0), ((HB.out.cell (World.block_lt_of_cell? w _ hw262_1)).trans hw262_1)⟩ (fun hHeld => ?_)
             clear hK K
             refine norm_ (a' := ?_) ?_ ?_
             rotate_left
             ·show Act.put _ (some 18) _ = _
              simp only [Act.put, List.setIfInBounds_toArray, List.set_cons_zero, List.set_cons_succ, i64_w, i32_w]
              rfl
             refine pu (i := 6) (N := some 19) (bl 43 127) (any_of HT_.out (by kernel_rfl)) ?_
             refine pu (i := 7) (N := some 20) (bl 43 255) (any_of HT_.out (by kernel_rfl)) ?_
             refine pu (i := 8) (N := some 21) (bl 43 511) (any_of HT_.out (by kernel_rfl)) ?_
             refine pu (i := 9) (N := some 22) (bl 43 1023) (any_of HT_.out (by kernel_rfl)) ?_
             refine pu (i := 10) (N := some 23) (bl 43 2047) (any_of HT_.out (by kernel_rfl)) ?_
             refine pu (i := 11) (N := some 24) (bl 43 4095) (any_of HT_.out (by kernel_rfl)) ?_
             refine ta (i := 12) (N := some 25) (bl 43 8191) (take_ofW HT_.out HW_.out (by kernel_rfl)) hHeld ?_
             refine one_ (i := 13) (N := some 26) (bl 43 16383) rfl rfl (one_of HT_.out (by kernel_rfl)) (by decide) (fun K hK => ?_)
             refine goes_ Try.func32 (by kernel_rfl) rfl #[.int .i64 ((rd_T41 l0 x3_1).f1)] (by rfl) rfl rfl (by (try simp only [List.map_toArray, List.map_cons, List.map_nil]); first | done | rfl | (simp only [List.length_drop, List.length_take]; rfl)) ?_
             with_reducible refine (erasureref06_countOK.calls ((rd_T41 l0 x3_1).f1) true _ A7.out).mono ?_
             rintro e w' ⟨rfl, ⟨nd, rfl⟩⟩
             refine ⟨_, rfl, ?_⟩
             refine hK.out _ _ ⟨((HB.out.cell (World.block_lt_of_cell? w _ hw256_0)).trans hw256_0), ((HB.out.cell (World.block_lt_of_cell? w _ hw256_1)).trans hw256_1), ((HB.out.cell (World.block_lt_of_cell? w _ hw258_0)).trans hw258_0), ((HB.out.cell (World.block_lt_of_cell? w _ hw258_1)).trans hw258_1), ((HB.out.cell (World.block_lt_of_cell? w _ hw260_0)).trans hw260_0), ((HB.out.cell (World.block_lt_of_cell? w _ hw260_1)).trans hw260_1), ((HB.out.cell (World.block_lt_of_cell? w _ hw261_0)).trans hw261_0), ((HB.out.cell (World.block_lt_of_cell? w _ hw261_1)).trans hw261_1), ((HB.out.cell (World.block_lt_of_cell? w _ hw262_0)).trans hw262_0), ((HB.out.cell (World.block_lt_of_cell? w _ hw262_1)).trans hw262_1)⟩ (fun hHeld => ?_)
             clear hK K
             refine norm_ (a' := ?_) ?_ ?_
             rotate_left
             ·show Act.put _ (some 26) _ = _
              simp only [Act.put, List.setIfInBounds_toArray, List.set_cons_zero, List.set_cons_succ, i64_w, i32_w]
              rfl
             refine pu (i := 14) (N := some 27) (bl 43 32767) (any_of HT_.out (by kernel_rfl)) ?_
             refine pu (i := 15) (N := some 28) (bl 43 65535) (any_of HT_.out (by kernel_rfl)) ?_
             refine pu (i := 16) (N := some 29) (bl 43 131071) (any_of HT_.out (by kernel_rfl)) ?_
             refine pu (i := 17) (N := some 30) (bl 43 262143) (any_of HT_.out (by kernel_rfl)) ?_
             refine pu (i := 18) (N := some 31) (bl 43 524287) (any_of HT_.out (by kernel_rfl)) ?_
             refine pu (i := 19) (N := some 32) (bl 43 1048575) (any_of HT_.out (by kernel_rfl)) ?_
             refine pu (i := 20) (N := some 33) (bl 43 2097151) (any_of HT_.out (by kernel_rfl)) ?_
             refine ta (i := 21) (N := some 34) (bl 43 4194303) (take_ofW HT_.out HW_.out (by kernel_rfl)) hHeld ?_
             refine pu (i := 22) (N := some 35) (bl 43 8388607) (any_of HT_.out (by kernel_rfl)) ?_
             refine pu (i := 23) (N := some 36) (bl 43 16777215) (any_of HT_.out (by kernel_rfl)) ?_
             refine pu (i := 24) (N := some 37) (bl 43 33554431) (any_of HT_.out (by kernel_rfl)) ?_
             refine pu (i := 25) (N := some 38) (bl 43 67108863) (any_of HT_.out (by kernel_rfl)) ?_
             refine pu (i := 26) (N := some 39) (bl 43 134217727) (any_of HT_.out (by kernel_rfl)) ?_
             refine pu (i := 27) (N := some 40) (bl 43 268435455) (any_of HT_.out (by kernel_rfl)) ?_
             refine pu (i := 28) (N := some 41) (bl 43 536870911) (any_of HT_.out (by kernel_rfl)) ?_
             refine pu (i := 29) (N := some 42) (bl 43 1073741823) (any_of HT_.out (by kernel_rfl)) ?_
             refine pu (i := 30) (N := some 43) (bl 43 2147483647) (any_of HT_.out (by kernel_rfl)) ?_
             refine pu (i := 31) (N := some 44) (bl 43 4294967295) (any_of HT_.out (by kernel_rfl)) ?_
             refine pu (i := 32) (N := some 45) (bl 43 8589934591) (any_of HT_.out (by kernel_rfl)) ?_
             refine pu (i := 34) (N := some 47) (bl 43 25769803775) (any_of HT_.out (by kernel_rfl)) ?_
             refine pu (i := 35) (N := some 48) (bl 43 60129542143) (any_of HT_.out (by kernel_rfl)) ?_
             refine pu (i := 36) (N := some 49) (bl 43 128849018879) (any_of HT_.out (by kernel_rfl)) ?_
             refine pu (i := 37) (N := some 50) (bl 43 266287972351) (any_of HT_.out (by kernel_rfl)) ?_
             refine ta (i := 33) (N := some 46) (bl 43 274877906943) (take_ofW HT_.out HW_.out (by kernel_rfl)) hHeld ?_
             refine ta (i := 38) (N := some 51) (bl 43 549755813887) (take_ofW HT_.out HW_.out (by kernel_rfl)) hHeld ?_
             refine one_ (i := 39) (N := some 52) (bl 43 1099511627775) rfl rfl (one_of HT_.out (by kernel_rfl)) (by decide) (fun K hK => ?_)
             refine goes_ Try.func42 (by kernel_rfl) rfl #[.slice A261_0 ((rd_T41 l0 (ji13)).f0).length c261_0, .slice A256_0 ((rd_T41 l0 x3_1).f0).length c256_0] (by rfl) rfl rfl (by (try simp only [List.map_toArray, List.map_cons, List.map_nil]); first | done | (simp only [hji13]; rfl) | rfl | (simp only [List.length_drop, List.length_take]; rfl)) ?_
             with_reducible refine (erasureref01_CompareRows.calls k1 _ _ ((rd_T41 l0 (ji13)).f0) _ _ ((rd_T41 l0 x3_1).f0) t263 _ ?side1 ?side2 ?side3 ?side4 A16.out).mono ?_
             (case side1 => repeat (first | exact (Kd.C_below HR261_0.out (by repeat (first | (with_reducible first | exact HB.out | apply below_alloc | apply pw_below_drewN | apply below_drew1) | exact HB.out))) | (with_reducible refine Kd.C_alloc ?_ _) | (with_reducible refine Kd.C_drewN ?_ _) | (with_reducible refine Kd.C_drew ?_)))
             (case side2 => exact HC261_0.out)
             (case side3 => repeat (first | exact (Kd.C_below HR262_0.out (by repeat (first | (with_reducible first | exact HB.out | apply below_alloc | apply pw_below_drewN | apply below_drew1) | exact HB.out))) | (with_reducible refine Kd.C_alloc ?_ _) | (with_reducible refine Kd.C_drewN ?_ _) | (with_reducible refine Kd.C_drew ?_)))
             (case side4 => exact HC262_0.out)
             rintro e w20 ⟨rfl, hb⟩
             refine ⟨_, rfl, ?_⟩
             have n0_ := Aside0.mk (below_step (by repeat (first | (with_reducible first | exact HB.out | apply below_alloc | apply pw_below_drewN | apply below_drew1) | exact HB.out)) hb)
             clear HB
             have HB := n0_
             clear n0_
             (try clear hb)
             (try clear hb2)
             (try clear hk)
             (try clear hi)
             refine hK.out _ _ ⟨((HB.out.cell (World.block_lt_of_cell? w _ hw256_0)).trans hw256_0), ((HB.out.cell (World.block_lt_of_cell? w _ hw256_1)).trans hw256_1), ((HB.out.cell (World.block_lt_of_cell? w _ hw258_0)).trans hw258_0), ((HB.out.cell (World.block_lt_of_cell? w _ hw258_1)).trans hw258_1), ((HB.out.cell (World.block_lt_of_cell? w _ hw260_0)).trans hw260_0), ((HB.out.cell (World.block_lt_of_cell? w _ hw260_1)).trans hw260_1), ((HB.out.cell (World.block_lt_of_cell? w _ hw261_0)).trans hw261_0), ((HB.out.cell (World.block_lt_of_cell? w _ hw261_1)).trans hw261_1), ((HB.out.cell (World.block_lt_of_cell? w _ hw262_0)).trans hw262_0), ((HB.out.cell (World.block_lt_of_cell? w _ hw262_1)).trans hw262_1)⟩ (fun hHeld => ?_)
             clear hK K
             refine norm_ (a' := ?_) ?_ ?_
             rotate_left
             ·show Act.put _ (some 52) _ = _
              simp only [Act.put, List.setIfInBounds_toArray, List.set_cons_zero, List.set_cons_succ, i64_w, i32_w]
              rfl
             refine pu (i := 40) (N := some 53) (bl 43 2199023255551) (any_of HT_.out (by kernel_rfl)) ?_
             refine pu (i := 41) (N := some 54) (bl 43 4398046511103) (any_of HT_.out (by kernel_rfl)) ?_
             refine pu (i := 42) (N := some 55) (bl 43 8796093022207) (any_of HT_.out (by kernel_rfl)) ?_
             refine done_ (done_of HT_.out (by kernel_rfl)) ?_
             try go_wp2
             go_ret
             exact ⟨by first | rfl | (simp [errW_none, errW_some] <;> rfl) | (simp only [← hji13]; first | rfl | (simp [errW_none, errW_some] <;> rfl)) | (simp [*, errW_none, errW_some] <;> rfl), by repeat (first | (with_reducible first | exact HB.out | apply below_alloc | apply pw_below_drewN | apply below_drew1) | exact HB.out)⟩
            ·rw [if_neg c17] at H
             have c17b0 : decide (0 ≤ t263) = false := decide_eq_false c17
             clear c17
             have H' := Aside0.mk H
             clear H
             try go_wp2
             have n0_ := Aside0.mk (below_drew1 HB.out)
             clear HB
             have HB := n0_
             clear n0_
             have p256 : 0 ≤ (x3_1 : Int) := of_decide_eq_true (by first | (with_reducible assumption) | assumption)
             have q256 : x3_1 < (l0.length : Int) := of_decide_eq_true (by first | (with_reducible assumption) | assumption)
             obtain ⟨ad256, A256_0, c256_0, e256, hx256_0, hx256_1, hl256_0, hi256_0⟩ := at_T41 HR0.out x3_1 p256 q256
             have hw256_1 := hx256_1
             have hw256_0 := hx256_0
             cases e256
             replace hx256_0 := (HB.out.cell (World.block_lt_of_cell? w _ hx256_0)).trans hx256_0
             replace hx256_1 := (HB.out.cell (World.block_lt_of_cell? w _ hx256_1)).trans hx256_1
             have HR256_0 := Aside0.mk hi256_0
             have HC256_0 := Aside0.mk hl256_0
             clear hi256_0 hl256_0
             replace p256 := eq_true p256
             replace q256 := eq_true q256
             have p258 : 0 ≤ (x3_1 : Int) := of_decide_eq_true (by first | (with_reducible assumption) | assumption)
             have q258 : x3_1 < (l0.length : Int) := of_decide_eq_true (by first | (with_reducible assumption) | assumption)
             obtain ⟨ad258, A258_0, c258_0, e258, hx258_0, hx258_1, hl258_0, hi258_0⟩ := at_T41 HR0.out x3_1 p258 q258
             have hw258_1 := hx258_1
             have hw258_0 := hx258_0
             obtain rfl : ad256 = ad258 := (by injection e258)
             replace hx258_0 := (HB.out.cell (World.block_lt_of_cell? w _ hx258_0)).trans hx258_0
             replace hx258_1 := (HB.out.cell (World.block_lt_of_cell? w _ hx258_1)).trans hx258_1
             have HR258_0 := Aside0.mk hi258_0
             have HC258_0 := Aside0.mk hl258_0
             clear hi258_0 hl258_0
             replace p258 := eq_true p258
             replace q258 := eq_true q258
             have ea_ := Option.some.inj (hx256_0.symm.trans hx258_0)
             injection ea_ with ea_ en_ ec_
             subst ea_
             subst ec_
             clear en_
             have p260 : 0 ≤ (x3_1 : Int) := of_decide_eq_true (by first | (with_reducible assumption) | assumption)
             have q260 : x3_1 < (l0.length : Int) := of_decide_eq_true (by first | (with_reducible assumption) | assumption)
             obtain ⟨ad260, A260_0, c260_0, e260, hx260_0, hx260_1, hl260_0, hi260_0⟩ := at_T41 HR0.out x3_1 p260 q260
             have hw260_1 := hx260_1
             have hw260_0 := hx260_0
             obtain rfl : ad256 = ad260 := (by injection e260)
             replace hx260_0 := (HB.out.cell (World.block_lt_of_cell? w _ hx260_0)).trans hx260_0
             replace hx260_1 := (HB.out.cell (World.block_lt_of_cell? w _ hx260_1)).trans hx260_1
             have HR260_0 := Aside0.mk hi260_0
             have HC260_0 := Aside0.mk hl260_0
             clear hi260_0 hl260_0
             replace p260 := eq_true p260
             replace q260 := eq_true q260
             have ea_ := Option.some.inj (hx256_0.symm.trans hx260_0)
             injection ea_ with ea_ en_ ec_
             subst ea_
             subst ec_
             clear en_
             have p261 : 0 ≤ ((ji13) : Int) := of_decide_eq_true (by first | (with_reducible assumption) | assumption)
             have q261 : (ji13) < (l0.length : Int) := of_decide_eq_true (by first | (with_reducible assumption) | assumption)
             obtain ⟨ad261, A261_0, c261_0, e261, hx261_0, hx261_1, hl261_0, hi261_0⟩ := at_T41 HR0.out (ji13) p261 q261
             have hw261_1 := hx261_1
             have hw261_0 := hx261_0
             obtain rfl : ad256 = ad261 := (by injection e261)
             replace hx261_0 := (HB.out.cell (World.block_lt_of_cell? w _ hx261_0)).trans hx261_0
             replace hx261_1 := (HB.out.cell (World.block_lt_of_cell? w _ hx261_1)).trans hx261_1
             have HR261_0 := Aside0.mk hi261_0
             have HC261_0 := Aside0.mk hl261_0
             clear hi261_0 hl261_0
             replace p261 := eq_true p261
             replace q261 := eq_true q261
             have p262 : 0 ≤ (x3_1 : Int) := of_decide_eq_true (by first | (with_reducible assumption) | assumption)
             have q262 : x3_1 < (l0.length : Int) := of_decide_eq_true (by first | (with_reducible assumption) | assumption)
             obtain ⟨ad262, A262_0, c262_0, e262, hx262_0, hx262_1, hl262_0, hi262_0⟩ := at_T41 HR0.out x3_1 p262 q262
             have hw262_1 := hx262_1
             have hw262_0 := hx262_0
             obtain rfl : ad256 = ad262 := (by injection e262)
             replace hx262_0 := (HB.out.cell (World.block_lt_of_cell? w _ hx262_0)).trans hx262_0
             replace hx262_1 := (HB.out.cell (World.block_lt_of_cell? w _ hx262_1)).trans hx262_1
             have HR262_0 := Aside0.mk hi262_0
             have HC262_0 := Aside0.mk hl262_0
             clear hi262_0 hl262_0
             replace p262 := eq_true p262
             replace q262 := eq_true q262
             have ea_ := Option.some.inj (hx256_0.symm.trans hx262_0)
             injection ea_ with ea_ en_ ec_
             subst ea_
             subst ec_
             clear en_
             refine start_ (n := 43) (S := fun w' => w'.cell? (ad256.add ((x3_1).toNat * 2)) = some (.slice A256_0 ((rd_T41 l0 x3_1).f0).length c256_0) ∧ w'.cell? ⟨(ad256.add ((x3_1).toNat * 2)).block, (ad256.add ((x3_1).toNat * 2)).off + 1, none⟩ = some (.int .i64 ((rd_T41 l0 x3_1).f1)) ∧ w'.cell? (ad256.add ((x3_1).toNat * 2)) = some (.slice A256_0 ((rd_T41 l0 x3_1).f0).length c256_0) ∧ w'.cell? ⟨(ad256.add ((x3_1).toNat * 2)).block, (ad256.add ((x3_1).toNat * 2)).off + 1, none⟩ = some (.int .i64 ((rd_T41 l0 x3_1).f1)) ∧ w'.cell? (ad256.add ((x3_1).toNat * 2)) = some (.slice A256_0 ((rd_T41 l0 x3_1).f0).length c256_0) ∧ w'.cell? ⟨(ad256.add ((x3_1).toNat * 2)).block, (ad256.add ((x3_1).toNat * 2)).off + 1, none⟩ = some (.int .i64 ((rd_T41 l0 x3_1).f1)) ∧ w'.cell? (ad256.add (((ji13)).toNat * 2)) = some (.slice A261_0 ((rd_T41 l0 (ji13)).f0).length c261_0) ∧ w'.cell? ⟨(ad256.add (((ji13)).toNat * 2)).block, (ad256.add (((ji13)).toNat * 2)).off + 1, none⟩ = some (.int .i64 ((rd_T41 l0 (ji13)).f1)) ∧ w'.cell? (ad256.add ((x3_1).toNat * 2)) = some (.slice A256_0 ((rd_T41 l0 x3_1).f0).length c256_0) ∧ w'.cell? ⟨(ad256.add ((x3_1).toNat * 2)).block, (ad256.add ((x3_1).toNat * 2)).off + 1, none⟩ = some (.int .i64 ((rd_T41 l0 x3_1).f1))) (ds := []) #[false, false, false, false, false, false, false, false, false, false, false, false, false, false, false, false, false, false, false, false, false, false, false, false, false, false, false, false, false, false, false, false, false, false, false, false, false, false, false, false, false, false, false] (by kernel_rfl) rfl rfl ⟨((HB.out.cell (World.block_lt_of_cell? w _ hw256_0)).trans hw256_0), ((HB.out.cell (World.block_lt_of_cell? w _ hw256_1)).trans hw256_1), ((HB.out.cell (World.block_lt_of_cell? w _ hw258_0)).trans hw258_0), ((HB.out.cell (World.block_lt_of_cell? w _ hw258_1)).trans hw258_1), ((HB.out.cell (World.block_lt_of_cell? w _ hw260_0)).trans hw260_0), ((HB.out.cell (World.block_lt_of_cell? w _ hw260_1)).trans hw260_1), ((HB.out.cell (World.block_lt_of_cell? w _ hw261_0)).trans hw261_0), ((HB.out.cell (World.block_lt_of_cell? w _ hw261_1)).trans hw261_1), ((HB.out.cell (World.block_lt_of_cell? w _ hw262_0)).trans hw262_0), ((HB.out.cell (World.block_lt_of_cell? w _ hw262_1)).trans hw262_1)⟩ (fun hHeld => ?_); refine with_tabW erasureref06_Valid.tab6 erasureref06_Valid.bits6 (fun HT_ HW_ => ?_)
             generalize wr.drew = w21 at HB HR256_0 HR258_0 HR260_0 HR261_0 HR262_0 hx256_0 hx256_1 hx258_0 hx258_1 hx260_0 hx260_1 hx261_0 hx261_1 hx262_0 hx262_1 hHeld ⊢
             refine pu (i := 0) (N := some 13) (bl 43 1) (any_of HT_.out (by kernel_rfl)) ?_
             refine pu (i := 1) (N := some 14) (bl 43 3) (any_of HT_.out (by kernel_rfl)) ?_
             refine pu (i := 2) (N := some 15) (bl 43 7) (any_of HT_.out (by kernel_rfl)) ?_
             refine pu (i := 3) (N := some 16) (bl 43 15) (any_of HT_.out (by kernel_rfl)) ?_
             refine ta (i := 4) (N := some 17) (bl 43 31) (take_ofW HT_.out HW_.out (by kernel_rfl)) hHeld ?_
             refine one_ (i := 5) (N := some 18) (bl 43 63) rfl rfl (one_of HT_.out (by kernel_rfl)) (by decide) (fun K hK => ?_)
             refine goes_ Try.func31 (by kernel_rfl) rfl #[.slice A256_0 ((rd_T41 l0 x3_1).f0).length c256_0] (by rfl) rfl rfl (by (try simp only [List.map_toArray, List.map_cons, List.map_nil]); first | done | rfl | (simp only [List.length_drop, List.length_take]; rfl)) ?_
             with_reducible refine (erasureref01_ValidRow.calls k1 _ _ ((rd_T41 l0 x3_1).f0) true _ ?side1 ?side2 A5.out).mono ?_
             (case side1 => repeat (first | exact (Kd.C_below HR256_0.out HB.out) | (with_reducible refine Kd.C_alloc ?_ _) | (with_reducible refine Kd.C_drewN ?_ _) | (with_reducible refine Kd.C_drew ?_)))
             (case side2 => exact HC256_0.out)
             rintro e w22 ⟨rfl, hb⟩
             refine ⟨_, rfl, ?_⟩
             have n0_ := Aside0.mk (below_step (by repeat (first | (with_reducible first | exact HB.out | apply below_alloc | apply pw_below_drewN | apply below_drew1) | exact HB.out)) hb)
             clear HB
             have HB := n0_
             clear n0_
             (try clear hb)
             (try clear hb2)
             (try clear hk)
             (try clear hi)
             refine hK.out _ _ ⟨((HB.out.cell (World.block_lt_of_cell? w _ hw256_0)).trans hw256_0), ((HB.out.cell (World.block_lt_of_cell? w _ hw256_1)).trans hw256_1), ((HB.out.cell (World.block_lt_of_cell? w _ hw258_0)).trans hw258_0), ((HB.out.cell (World.block_lt_of_cell? w _ hw258_1)).trans hw258_1), ((HB.out.cell (World.block_lt_of_cell? w _ hw260_0)).trans hw260_0), ((HB.out.cell (World.block_lt_of_cell? w _ hw260_1)).trans hw260_1), ((HB.out.cell (World.block_lt_of_cell? w _ hw261_0)).trans hw261_0), ((HB.out.cell (World.block_lt_of_cell? w _ hw261_1)).trans hw261_1), ((HB.out.cell (World.block_lt_of_cell? w _ hw262_0)).trans hw262_0), ((HB.out.cell (World.block_lt_of_cell? w _ hw262_1)).trans hw262_1)⟩ (fun hHeld => ?_)
             clear hK K
             refine norm_ (a' := ?_) ?_ ?_
             rotate_left
             ·show Act.put _ (some 18) _ = _
              simp only [Act.put, List.setIfInBounds_toArray, List.set_cons_zero, List.set_cons_succ, i64_w, i32_w]
              rfl
             refine pu (i := 6) (N := some 19) (bl 43 127) (any_of HT_.out (by kernel_rfl)) ?_
             refine pu (i := 7) (N := some 20) (bl 43 255) (any_of HT_.out (by kernel_rfl)) ?_
             refine pu (i := 8) (N := some 21) (bl 43 511) (any_of HT_.out (by kernel_rfl)) ?_
             refine pu (i := 9) (N := some 22) (bl 43 1023) (any_of HT_.out (by kernel_rfl)) ?_
             refine pu (i := 10) (N := some 23) (bl 43 2047) (any_of HT_.out (by kernel_rfl)) ?_
             refine pu (i := 11) (N := some 24) (bl 43 4095) (any_of HT_.out (by kernel_rfl)) ?_
             refine ta (i := 12) (N := some 25) (bl 43 8191) (take_ofW HT_.out HW_.out (by kernel_rfl)) hHeld ?_
             refine one_ (i := 13) (N := some 26) (bl 43 16383) rfl rfl (one_of HT_.out (by kernel_rfl)) (by decide) (fun K hK => ?_)
             refine goes_ Try.func32 (by kernel_rfl) rfl #[.int .i64 ((rd_T41 l0 x3_1).f1)] (by rfl) rfl rfl (by (try simp only [List.map_toArray, List.map_cons, List.map_nil]); first | done | rfl | (simp only [List.length_drop, List.length_take]; rfl)) ?_
             with_reducible refine (erasureref06_countOK.calls ((rd_T41 l0 x3_1).f1) true _ A7.out).mono ?_
             rintro e w' ⟨rfl, ⟨nd, rfl⟩⟩
             refine ⟨_, rfl, ?_⟩
             refine hK.out _ _ ⟨((HB.out.cell (World.block_lt_of_cell? w _ hw256_0)).trans hw256_0), ((HB.out.cell (World.block_lt_of_cell? w _ hw256_1)).trans hw256_1), ((HB.out.cell (World.block_lt_of_cell? w _ hw258_0)).trans hw258_0), ((HB.out.cell (World.block_lt_of_cell? w _ hw258_1)).trans hw258_1), ((HB.out.cell (World.block_lt_of_cell? w _ hw260_0)).trans hw260_0), ((HB.out.cell (World.block_lt_of_cell? w _ hw260_1)).trans hw260_1), ((HB.out.cell (World.block_lt_of_cell? w _ hw261_0)).trans hw261_0), ((HB.out.cell (World.block_lt_of_cell? w _ hw261_1)).trans hw261_1), ((HB.out.cell (World.block_lt_of_cell? w _ hw262_0)).trans hw262_0), ((HB.out.cell (World.block_lt_of_cell? w _ hw262_1)).trans hw262_1)⟩ (fun hHeld => ?_)
             clear hK K
             refine norm_ (a' := ?_) ?_ ?_
             rotate_left
             ·show Act.put _ (some 26) _ = _
              simp only [Act.put, List.setIfInBounds_toArray, List.set_cons_zero, List.set_cons_succ, i64_w, i32_w]
              rfl
             refine pu (i := 14) (N := some 27) (bl 43 32767) (any_of HT_.out (by kernel_rfl)) ?_
             refine pu (i := 15) (N := some 28) (bl 43 65535) (any_of HT_.out (by kernel_rfl)) ?_
             refine pu (i := 16) (N := some 29) (bl 43 131071) (any_of HT_.out (by kernel_rfl)) ?_
             refine pu (i := 17) (N := some 30) (bl 43 262143) (any_of HT_.out (by kernel_rfl)) ?_
             refine pu (i := 18) (N := some 31) (bl 43 524287) (any_of HT_.out (by kernel_rfl)) ?_
             refine pu (i := 19) (N := some 32) (bl 43 1048575) (any_of HT_.out (by kernel_rfl)) ?_
             refine pu (i := 20) (N := some 33) (bl 43 2097151) (any_of HT_.out (by kernel_rfl)) ?_
             refine ta (i := 21) (N := some 34) (bl 43 4194303) (take_ofW HT_.out HW_.out (by kernel_rfl)) hHeld ?_
             refine pu (i := 22) (N := some 35) (bl 43 8388607) (any_of HT_.out (by kernel_rfl)) ?_
             refine pu (i := 23) (N := some 36) (bl 43 16777215) (any_of HT_.out (by kernel_rfl)) ?_
             refine pu (i := 24) (N := some 37) (bl 43 33554431) (any_of HT_.out (by kernel_rfl)) ?_
             refine pu (i := 25) (N := some 38) (bl 43 67108863) (any_of HT_.out (by kernel_rfl)) ?_
             refine pu (i := 26) (N := some 39) (bl 43 134217727) (any_of HT_.out (by kernel_rfl)) ?_
             refine pu (i := 27) (N := some 40) (bl 43 268435455) (any_of HT_.out (by kernel_rfl)) ?_
             refine pu (i := 28) (N := some 41) (bl 43 536870911) (any_of HT_.out (by kernel_rfl)) ?_
             refine pu (i := 29) (N := some 42) (bl 43 1073741823) (any_of HT_.out (by kernel_rfl)) ?_
             refine pu (i := 30) (N := some 43) (bl 43 2147483647) (any_of HT_.out (by kernel_rfl)) ?_
             refine pu (i := 31) (N := some 44) (bl 43 4294967295) (any_of HT_.out (by kernel_rfl)) ?_
             refine pu (i := 32) (N := some 45) (bl 43 8589934591) (any_of HT_.out (by kernel_rfl)) ?_
             refine pu (i := 34) (N := some 47) (bl 43 25769803775) (any_of HT_.out (by kernel_rfl)) ?_
             refine pu (i := 35) (N := some 48) (bl 43 60129542143) (any_of HT_.out (by kernel_rfl)) ?_
             refine pu (i := 36) (N := some 49) (bl 43 128849018879) (any_of HT_.out (by kernel_rfl)) ?_
             refine pu (i := 37) (N := some 50) (bl 43 266287972351) (any_of HT_.out (by kernel_rfl)) ?_
             refine ta (i := 33) (N := some 46) (bl 43 274877906943) (take_ofW HT_.out HW_.out (by kernel_rfl)) hHeld ?_
             refine ta (i := 38) (N := some 51) (bl 43 549755813887) (take_ofW HT_.out HW_.out (by kernel_rfl)) hHeld ?_
             refine one_ (i := 39) (N := some 52) (bl 43 1099511627775) rfl rfl (one_of HT_.out (by kernel_rfl)) (by decide) (fun K hK => ?_)
             refine goes_ Try.func42 (by kernel_rfl) rfl #[.slice A261_0 ((rd_T41 l0 (ji13)).f0).length c261_0, .slice A256_0 ((rd_T41 l0 x3_1).f0).length c256_0] (by rfl) rfl rfl (by (try simp only [List.map_toArray, List.map_cons, List.map_nil]); first | done | (simp only [hji13]; rfl) | rfl | (simp only [List.length_drop, List.length_take]; rfl)) ?_
             with_reducible refine (erasureref01_CompareRows.calls k1 _ _ ((rd_T41 l0 (ji13)).f0) _ _ ((rd_T41 l0 x3_1).f0) t263 _ ?side1 ?side2 ?side3 ?side4 A16.out).mono ?_
             (case side1 => repeat (first | exact (Kd.C_below HR261_0.out (by repeat (first | (with_reducible first | exact HB.out | apply below_alloc | apply pw_below_drewN | apply below_drew1) | exact HB.out))) | (with_reducible refine Kd.C_alloc ?_ _) | (with_reducible refine Kd.C_drewN ?_ _) | (with_reducible refine Kd.C_drew ?_)))
             (case side2 => exact HC261_0.out)
             (case side3 => repeat (first | exact (Kd.C_below HR262_0.out (by repeat (first | (with_reducible first | exact HB.out | apply below_alloc | apply pw_below_drewN | apply below_drew1) | exact HB.out))) | (with_reducible refine Kd.C_alloc ?_ _) | (with_reducible refine Kd.C_drewN ?_ _) | (with_reducible refine Kd.C_drew ?_)))
             (case side4 => exact HC262_0.out)
             rintro e w23 ⟨rfl, hb⟩
             refine ⟨_, rfl, ?_⟩
             have n0_ := Aside0.mk (below_step (by repeat (first | (with_reducible first | exact HB.out | apply below_alloc | apply pw_below_drewN | apply below_drew1) | exact HB.out)) hb)
             clear HB
             have HB := n0_
             clear n0_
             (try clear hb)
             (try clear hb2)
             (try clear hk)
             (try clear hi)
             refine hK.out _ _ ⟨((HB.out.cell (World.block_lt_of_cell? w _ hw256_0)).trans hw256_0), ((HB.out.cell (World.block_lt_of_cell? w _ hw256_1)).trans hw256_1), ((HB.out.cell (World.block_lt_of_cell? w _ hw258_0)).trans hw258_0), ((HB.out.cell (World.block_lt_of_cell? w _ hw258_1)).trans hw258_1), ((HB.out.cell (World.block_lt_of_cell? w _ hw260_0)).trans hw260_0), ((HB.out.cell (World.block_lt_of_cell? w _ hw260_1)).trans hw260_1), ((HB.out.cell (World.block_lt_of_cell? w _ hw261_0)).trans hw261_0), ((HB.out.cell (World.block_lt_of_cell? w _ hw261_1)).trans hw261_1), ((HB.out.cell (World.block_lt_of_cell? w _ hw262_0)).trans hw262_0), ((HB.out.cell (World.block_lt_of_cell? w _ hw262_1)).trans hw262_1)⟩ (fun hHeld => ?_)
             clear hK K
             refine norm_ (a' := ?_) ?_ ?_
             rotate_left
             ·show Act.put _ (some 52) _ = _
              simp only [Act.put, List.setIfInBounds_toArray, List.set_cons_zero, List.set_cons_succ, i64_w, i32_w]
              rfl
             refine pu (i := 40) (N := some 53) (bl 43 2199023255551) (any_of HT_.out (by kernel_rfl)) ?_
             refine pu (i := 41) (N := some 54) (bl 43 4398046511103) (any_of HT_.out (by kernel_rfl)) ?_
             refine pu (i := 42) (N := some 55) (bl 43 8796093022207) (any_of HT_.out (by kernel_rfl)) ?_
             refine done_ (done_of HT_.out (by kernel_rfl)) ?_
             try go_wp2
             go_roundg k1
             case measure => have := HK1.out; omega
             case rel => exact ⟨(wrap64 (x3_1 + 1)), (by first | rfl | (simp; done) | (simp [*]; done)), H', ⟨by have := HK1.out; omega⟩, ⟨by repeat (first | (with_reducible first | exact HB.out | apply below_alloc | apply pw_below_drewN | apply below_drew1) | exact HB.out)⟩⟩
           ·rw [if_neg c15] at H
            exact absurd H (by simp)
          ·rw [if_neg c14] at H
           exact absurd H (by simp)
         ·rw [if_neg c12] at H
          have c12b0 : decide (0 < x3_1) = false := decide_eq_false c12
          clear c12
          have H' := Aside0.mk H
          clear H
          try go_wp2
          have n0_ := Aside0.mk (below_drew1 HB.out)
          clear HB
          have HB := n0_
          clear n0_
          have p256 : 0 ≤ (x3_1 : Int) := of_decide_eq_true (by first | (with_reducible assumption) | assumption)
          have q256 : x3_1 < (l0.length : Int) := of_decide_eq_true (by first | (with_reducible assumption) | assumption)
          obtain ⟨ad256, A256_0, c256_0, e256, hx256_0, hx256_1, hl256_0, hi256_0⟩ := at_T41 HR0.out x3_1 p256 q256
          have hw256_1 := hx256_1
          have hw256_0 := hx256_0
          cases e256
          replace hx256_0 := (HB.out.cell (World.block_lt_of_cell? w _ hx256_0)).trans hx256_0
          replace hx256_1 := (HB.out.cell (World.block_lt_of_cell? w _ hx256_1)).trans hx256_1
          have HR256_0 := Aside0.mk hi256_0
          have HC256_0 := Aside0.mk hl256_0
          clear hi256_0 hl256_0
          replace p256 := eq_true p256
          replace q256 := eq_true q256
          have p258 : 0 ≤ (x3_1 : Int) := of_decide_eq_true (by first | (with_reducible assumption) | assumption)
          have q258 : x3_1 < (l0.length : Int) := of_decide_eq_true (by first | (with_reducible assumption) | assumption)
          obtain ⟨ad258, A258_0, c258_0, e258, hx258_0, hx258_1, hl258_0, hi258_0⟩ := at_T41 HR0.out x3_1 p258 q258
          have hw258_1 := hx258_1
          have hw258_0 := hx258_0
          obtain rfl : ad256 = ad258 := (by injection e258)
          replace hx258_0 := (HB.out.cell (World.block_lt_of_cell? w _ hx258_0)).trans hx258_0
          replace hx258_1 := (HB.out.cell (World.block_lt_of_cell? w _ hx258_1)).trans hx258_1
          have HR258_0 := Aside0.mk hi258_0
          have HC258_0 := Aside0.mk hl258_0
          clear hi258_0 hl258_0
          replace p258 := eq_true p258
          replace q258 := eq_true q258
          have ea_ := Option.some.inj (hx256_0.symm.trans hx258_0)
          injection ea_ with ea_ en_ ec_
          subst ea_
          subst ec_
          clear en_
          have p260 : 0 ≤ (x3_1 : Int) := of_decide_eq_true (by first | (with_reducible assumption) | assumption)
          have q260 : x3_1 < (l0.length : Int) := of_decide_eq_true (by first | (with_reducible assumption) | assumption)
          obtain ⟨ad260, A260_0, c260_0, e260, hx260_0, hx260_1, hl260_0, hi260_0⟩ := at_T41 HR0.out x3_1 p260 q260
          have hw260_1 := hx260_1
          have hw260_0 := hx260_0
          obtain rfl : ad256 = ad260 := (by injection e260)
          replace hx260_0 := (HB.out.cell (World.block_lt_of_cell? w _ hx260_0)).trans hx260_0
          replace hx260_1 := (HB.out.cell (World.block_lt_of_cell? w _ hx260_1)).trans hx260_1
          have HR260_0 := Aside0.mk hi260_0
          have HC260_0 := Aside0.mk hl260_0
          clear hi260_0 hl260_0
          replace p260 := eq_true p260
          replace q260 := eq_true q260
          have ea_ := Option.some.inj (hx256_0.symm.trans hx260_0)
          injection ea_ with ea_ en_ ec_
          subst ea_
          subst ec_
          clear en_
          refine start_ (n := 43) (S := fun w' => w'.cell? (ad256.add ((x3_1).toNat * 2)) = some (.slice A256_0 ((rd_T41 l0 x3_1).f0).length c256_0) ∧ w'.cell? ⟨(ad256.add ((x3_1).toNat * 2)).block, (ad256.add ((x3_1).toNat * 2)).off + 1, none⟩ = some (.int .i64 ((rd_T41 l0 x3_1).f1)) ∧ w'.cell? (ad256.add ((x3_1).toNat * 2)) = some (.slice A256_0 ((rd_T41 l0 x3_1).f0).length c256_0) ∧ w'.cell? ⟨(ad256.add ((x3_1).toNat * 2)).block, (ad256.add ((x3_1).toNat * 2)).off + 1, none⟩ = some (.int .i64 ((rd_T41 l0 x3_1).f1)) ∧ w'.cell? (ad256.add ((x3_1).toNat * 2)) = some (.slice A256_0 ((rd_T41 l0 x3_1).f0).length c256_0) ∧ w'.cell? ⟨(ad256.add ((x3_1).toNat * 2)).block, (ad256.add ((x3_1).toNat * 2)).off + 1, none⟩ = some (.int .i64 ((rd_T41 l0 x3_1).f1))) (ds := []) #[false, false, false, false, false, false, false, false, false, false, false, false, false, false, false, false, false, false, false, false, false, false, false, false, false, false, false, false, false, false, false, false, false, false, false, false, false, false, false, false, false, false, false] (by kernel_rfl) rfl rfl ⟨((HB.out.cell (World.block_lt_of_cell? w _ hw256_0)).trans hw256_0), ((HB.out.cell (World.block_lt_of_cell? w _ hw256_1)).trans hw256_1), ((HB.out.cell (World.block_lt_of_cell? w _ hw258_0)).trans hw258_0), ((HB.out.cell (World.block_lt_of_cell? w _ hw258_1)).trans hw258_1), ((HB.out.cell (World.block_lt_of_cell? w _ hw260_0)).trans hw260_0), ((HB.out.cell (World.block_lt_of_cell? w _ hw260_1)).trans hw260_1)⟩ (fun hHeld => ?_); refine with_tabW erasureref06_Valid.tab6 erasureref06_Valid.bits6 (fun HT_ HW_ => ?_)
          generalize wr.drew = w24 at HB HR256_0 HR258_0 HR260_0 hx256_0 hx256_1 hx258_0 hx258_1 hx260_0 hx260_1 hHeld ⊢
          refine pu (i := 0) (N := some 13) (bl 43 1) (any_of HT_.out (by kernel_rfl)) ?_
          refine pu (i := 1) (N := some 14) (bl 43 3) (any_of HT_.out (by kernel_rfl)) ?_
          refine pu (i := 2) (N := some 15) (bl 43 7) (any_of HT_.out (by kernel_rfl)) ?_
          refine pu (i := 3) (N := some 16) (bl 43 15) (any_of HT_.out (by kernel_rfl)) ?_
          refine ta (i := 4) (N := some 17) (bl 43 31) (take_ofW HT_.out HW_.out (by kernel_rfl)) hHeld ?_
          refine one_ (i := 5) (N := some 18) (bl 43 63) rfl rfl (one_of HT_.out (by kernel_rfl)) (by decide) (fun K hK => ?_)
          refine goes_ Try.func31 (by kernel_rfl) rfl #[.slice A256_0 ((rd_T41 l0 x3_1).f0).length c256_0] (by rfl) rfl rfl (by (try simp only [List.map_toArray, List.map_cons, List.map_nil]); first | done | rfl | (simp only [List.length_drop, List.length_take]; rfl)) ?_
          with_reducible refine (erasureref01_ValidRow.calls k1 _ _ ((rd_T41 l0 x3_1).f0) true _ ?side1 ?side2 A5.out).mono ?_
          (case side1 => repeat (first | exact (Kd.C_below HR256_0.out HB.out) | (with_reducible refine Kd.C_alloc ?_ _) | (with_reducible refine Kd.C_drewN ?_ _) | (with_reducible refine Kd.C_drew ?_)))
          (case side2 => exact HC256_0.out)
          rintro e w25 ⟨rfl, hb⟩
          refine ⟨_, rfl, ?_⟩
          have n0_ := Aside0.mk (below_step (by repeat (first | (with_reducible first | exact HB.out | apply below_alloc | apply pw_below_drewN | apply below_drew1) | exact HB.out)) hb)
          clear HB
          have HB := n0_
          clear n0_
          (try clear hb)
          (try clear hb2)
          (try clear hk)
          (try clear hi)
          refine hK.out _ _ ⟨((HB.out.cell (World.block_lt_of_cell? w _ hw256_0)).trans hw256_0), ((HB.out.cell (World.block_lt_of_cell? w _ hw256_1)).trans hw256_1), ((HB.out.cell (World.block_lt_of_cell? w _ hw258_0)).trans hw258_0), ((HB.out.cell (World.block_lt_of_cell? w _ hw258_1)).trans hw258_1), ((HB.out.cell (World.block_lt_of_cell? w _ hw260_0)).trans hw260_0), ((HB.out.cell (World.block_lt_of_cell? w _ hw260_1)).trans hw260_1)⟩ (fun hHeld => ?_)
          clear hK K
          refine norm_ (a' := ?_) ?_ ?_
          rotate_left
          ·show Act.put _ (some 18) _ = _
           simp only [Act.put, List.setIfInBounds_toArray, List.set_cons_zero, List.set_cons_succ, i64_w, i32_w]
           rfl
          refine pu (i := 6) (N := some 19) (bl 43 127) (any_of HT_.out (by kernel_rfl)) ?_
          refine pu (i := 7) (N := some 20) (bl 43 255) (any_of HT_.out (by kernel_rfl)) ?_
          refine pu (i := 8) (N := some 21) (bl 43 511) (any_of HT_.out (by kernel_rfl)) ?_
          refine pu (i := 9) (N := some 22) (bl 43 1023) (any_of HT_.out (by kernel_rfl)) ?_
          refine pu (i := 10) (N := some 23) (bl 43 2047) (any_of HT_.out (by kernel_rfl)) ?_
          refine pu (i := 11) (N := some 24) (bl 43 4095) (any_of HT_.out (by kernel_rfl)) ?_
          refine ta (i := 12) (N := some 25) (bl 43 8191) (take_ofW HT_.out HW_.out (by kernel_rfl)) hHeld ?_
          refine one_ (i := 13) (N := some 26) (bl 43 16383) rfl rfl (one_of HT_.out (by kernel_rfl)) (by decide) (fun K hK => ?_)
          refine goes_ Try.func32 (by kernel_rfl) rfl #[.int .i64 ((rd_T41 l0 x3_1).f1)] (by rfl) rfl rfl (by (try simp only [List.map_toArray, List.map_cons, List.map_nil]); first | done | rfl | (simp only [List.length_drop, List.length_take]; rfl)) ?_
          with_reducible refine (erasureref06_countOK.calls ((rd_T41 l0 x3_1).f1) true _ A7.out).mono ?_
          rintro e w' ⟨rfl, ⟨nd, rfl⟩⟩
          refine ⟨_, rfl, ?_⟩
          refine hK.out _ _ ⟨((HB.out.cell (World.block_lt_of_cell? w _ hw256_0)).trans hw256_0), ((HB.out.cell (World.block_lt_of_cell? w _ hw256_1)).trans hw256_1), ((HB.out.cell (World.block_lt_of_cell? w _ hw258_0)).trans hw258_0), ((HB.out.cell (World.block_lt_of_cell? w _ hw258_1)).trans hw258_1), ((HB.out.cell (World.block_lt_of_cell? w _ hw260_0)).trans hw260_0), ((HB.out.cell (World.block_lt_of_cell? w _ hw260_1)).trans hw260_1)⟩ (fun hHeld => ?_)
          clear hK K
          refine norm_ (a' := ?_) ?_ ?_
          rotate_left
          ·show Act.put _ (some 26) _ = _
           simp only [Act.put, List.setIfInBounds_toArray, List.set_cons_zero, List.set_cons_succ, i64_w, i32_w]
           rfl
          refine pu (i := 14) (N := some 27) (bl 43 32767) (any_of HT_.out (by kernel_rfl)) ?_
          refine pu (i := 15) (N := some 28) (bl 43 65535) (any_of HT_.out (by kernel_rfl)) ?_
          refine pu (i := 16) (N := some 29) (bl 43 131071) (any_of HT_.out (by kernel_rfl)) ?_
          refine pu (i := 17) (N := some 30) (bl 43 262143) (any_of HT_.out (by kernel_rfl)) ?_
          refine pu (i := 18) (N := some 31) (bl 43 524287) (any_of HT_.out (by kernel_rfl)) ?_
          refine pu (i := 19) (N := some 32) (bl 43 1048575) (any_of HT_.out (by kernel_rfl)) ?_
          refine pu (i := 20) (N := some 33) (bl 43 2097151) (any_of HT_.out (by kernel_rfl)) ?_
          refine ta (i := 21) (N := some 34) (bl 43 4194303) (take_ofW HT_.out HW_.out (by kernel_rfl)) hHeld ?_
          refine pu (i := 22) (N := some 35) (bl 43 8388607) (any_of HT_.out (by kernel_rfl)) ?_
          refine pu (i := 23) (N := some 36) (bl 43 16777215) (any_of HT_.out (by kernel_rfl)) ?_
          refine pu (i := 24) (N := some 37) (bl 43 33554431) (any_of HT_.out (by kernel_rfl)) ?_
          refine pu (i := 25) (N := some 38) (bl 43 67108863) (any_of HT_.out (by kernel_rfl)) ?_
          refine pu (i := 26) (N := some 39) (bl 43 134217727) (any_of HT_.out (by kernel_rfl)) ?_
          refine pu (i := 27) (N := some 40) (bl 43 268435455) (any_of HT_.out (by kernel_rfl)) ?_
          refine po (i := 28) (N := some 41) (bl 43 536870911) (any_of HT_.out (by kernel_rfl)) ?_
          refine po (i := 29) (N := some 42) (bl 43 1073741823) (any_of HT_.out (by kernel_rfl)) ?_
          refine po (i := 30) (N := some 43) (bl 43 2147483647) (any_of HT_.out (by kernel_rfl)) ?_
          refine po (i := 31) (N := some 44) (bl 43 4294967295) (any_of HT_.out (by kernel_rfl)) ?_
          refine po (i := 32) (N := some 45) (bl 43 8589934591) (any_of HT_.out (by kernel_rfl)) ?_
          refine po (i := 33) (N := some 46) (bl 43 17179869183) (any_of HT_.out (by kernel_rfl)) ?_
          refine po (i := 34) (N := some 47) (bl 43 34359738367) (any_of HT_.out (by kernel_rfl)) ?_
          refine po (i := 35) (N := some 48) (bl 43 68719476735) (any_of HT_.out (by kernel_rfl)) ?_
          refine po (i := 36) (N := some 49) (bl 43 137438953471) (any_of HT_.out (by kernel_rfl)) ?_
          refine po (i := 37) (N := some 50) (bl 43 274877906943) (any_of HT_.out (by kernel_rfl)) ?_
          refine po (i := 38) (N := some 51) (bl 43 549755813887) (any_of HT_.out (by kernel_rfl)) ?_
          refine po (i := 39) (N := some 52) (bl 43 1099511627775) (any_of HT_.out (by kernel_rfl)) ?_
          refine po (i := 40) (N := some 53) (bl 43 2199023255551) (any_of HT_.out (by kernel_rfl)) ?_
          refine pu (i := 41) (N := some 54) (bl 43 4398046511103) (any_of HT_.out (by kernel_rfl)) ?_
          refine pu (i := 42) (N := some 55) (bl 43 8796093022207) (any_of HT_.out (by kernel_rfl)) ?_
          refine done_ (done_of HT_.out (by kernel_rfl)) ?_
          try go_wp2
          go_roundg k1
          case measure => have := HK1.out; omega
          case rel => exact ⟨(wrap64 (x3_1 + 1)), (by first | rfl | (simp; done) | (simp [*]; done)), H', ⟨by have := HK1.out; omega⟩, ⟨by repeat (first | (with_reducible first | exact HB.out | apply below_alloc | apply pw_below_drewN | apply below_drew1) | exact HB.out)⟩⟩
       ·replace c8 := Bool.eq_false_iff.mpr c8
        subst c8
        have H1 : (some false) = some r := by rw [if_neg (show ¬ (false = true) by decide)] at H; exact H
        clear H
        have H := H1
        clear H1
        obtain rfl := Option.some.inj H
        try go_wp2
        have n0_ := Aside0.mk (below_drew1 HB.out)
        clear HB
        have HB := n0_
        clear n0_
        have p256 : 0 ≤ (x3_1 : Int) := of_decide_eq_true (by first | (with_reducible assumption) | assumption)
        have q256 : x3_1 < (l0.length : Int) := of_decide_eq_true (by first | (with_reducible assumption) | assumption)
        obtain ⟨ad256, A256_0, c256_0, e256, hx256_0, hx256_1, hl256_0, hi256_0⟩ := at_T41 HR0.out x3_1 p256 q256
        have hw256_1 := hx256_1
        have hw256_0 := hx256_0
        cases e256
        replace hx256_0 := (HB.out.cell (World.block_lt_of_cell? w _ hx256_0)).trans hx256_0
        replace hx256_1 := (HB.out.cell (World.block_lt_of_cell? w _ hx256_1)).trans hx256_1
        have HR256_0 := Aside0.mk hi256_0
        have HC256_0 := Aside0.mk hl256_0
        clear hi256_0 hl256_0
        replace p256 := eq_true p256
        replace q256 := eq_true q256
        have p258 : 0 ≤ (x3_1 : Int) := of_decide_eq_true (by first | (with_reducible assumption) | assumption)
        have q258 : x3_1 < (l0.length : Int) := of_decide_eq_true (by first | (with_reducible assumption) | assumption)
        obtain ⟨ad258, A258_0, c258_0, e258, hx258_0, hx258_1, hl258_0, hi258_0⟩ := at_T41 HR0.out x3_1 p258 q258
        have hw258_1 := hx258_1
        have hw258_0 := hx258_0
        obtain rfl : ad256 = ad258 := (by injection e258)
        replace hx258_0 := (HB.out.cell (World.block_lt_of_cell? w _ hx258_0)).trans hx258_0
        replace hx258_1 := (HB.out.cell (World.block_lt_of_cell? w _ hx258_1)).trans hx258_1
        have HR258_0 := Aside0.mk hi258_0
        have HC258_0 := Aside0.mk hl258_0
        clear hi258_0 hl258_0
        replace p258 := eq_true p258
        replace q258 := eq_true q258
        have ea_ := Option.some.inj (hx256_0.symm.trans hx258_0)
        injection ea_ with ea_ en_ ec_
        subst ea_
        subst ec_
        clear en_
        refine start_ (n := 43) (S := fun w' => w'.cell? (ad256.add ((x3_1).toNat * 2)) = some (.slice A256_0 ((rd_T41 l0 x3_1).f0).length c256_0) ∧ w'.cell? ⟨(ad256.add ((x3_1).toNat * 2)).block, (ad256.add ((x3_1).toNat * 2)).off + 1, none⟩ = some (.int .i64 ((rd_T41 l0 x3_1).f1)) ∧ w'.cell? (ad256.add ((x3_1).toNat * 2)) = some (.slice A256_0 ((rd_T41 l0 x3_1).f0).length c256_0) ∧ w'.cell? ⟨(ad256.add ((x3_1).toNat * 2)).block, (ad256.add ((x3_1).toNat * 2)).off + 1, none⟩ = some (.int .i64 ((rd_T41 l0 x3_1).f1))) (ds := []) #[false, false, false, false, false, false, false, false, false, false, false, false, false, false, false, false, false, false, false, false, false, false, false, false, false, false, false, false, false, false, false, false, false, false, false, false, false, false, false, false, false, false, false] (by kernel_rfl) rfl rfl ⟨((HB.out.cell (World.block_lt_of_cell? w _ hw256_0)).trans hw256_0), ((HB.out.cell (World.block_lt_of_cell? w _ hw256_1)).trans hw256_1), ((HB.out.cell (World.block_lt_of_cell? w _ hw258_0)).trans hw258_0), ((HB.out.cell (World.block_lt_of_cell? w _ hw258_1)).trans hw258_1)⟩ (fun hHeld => ?_); refine with_tabW erasureref06_Valid.tab6 erasureref06_Valid.bits6 (fun HT_ HW_ => ?_)
        generalize wr.drew = w26 at HB HR256_0 HR258_0 hx256_0 hx256_1 hx258_0 hx258_1 hHeld ⊢
        refine pu (i := 0) (N := some 13) (bl 43 1) (any_of HT_.out (by kernel_rfl)) ?_
        refine pu (i := 1) (N := some 14) (bl 43 3) (any_of HT_.out (by kernel_rfl)) ?_
        refine pu (i := 2) (N := some 15) (bl 43 7) (any_of HT_.out (by kernel_rfl)) ?_
        refine pu (i := 3) (N := some 16) (bl 43 15) (any_of HT_.out (by kernel_rfl)) ?_
        refine ta (i := 4) (N := some 17) (bl 43 31) (take_ofW HT_.out HW_.out (by kernel_rfl)) hHeld ?_
        refine one_ (i := 5) (N := some 18) (bl 43 63) rfl rfl (one_of HT_.out (by kernel_rfl)) (by decide) (fun K hK => ?_)
        refine goes_ Try.func31 (by kernel_rfl) rfl #[.slice A256_0 ((rd_T41 l0 x3_1).f0).length c256_0] (by rfl) rfl rfl (by (try simp only [List.map_toArray, List.map_cons, List.map_nil]); first | done | rfl | (simp only [List.length_drop, List.length_take]; rfl)) ?_
        with_reducible refine (erasureref01_ValidRow.calls k1 _ _ ((rd_T41 l0 x3_1).f0) true _ ?side1 ?side2 A5.out).mono ?_
        (case side1 => repeat (first | exact (Kd.C_below HR256_0.out HB.out) | (with_reducible refine Kd.C_alloc ?_ _) | (with_reducible refine Kd.C_drewN ?_ _) | (with_reducible refine Kd.C_drew ?_)))
        (case side2 => exact HC256_0.out)
        rintro e w27 ⟨rfl, hb⟩
        refine ⟨_, rfl, ?_⟩
        have n0_ := Aside0.mk (below_step (by repeat (first | (with_reducible first | exact HB.out | apply below_alloc | apply pw_below_drewN | apply below_drew1) | exact HB.out)) hb)
        clear HB
        have HB := n0_
        clear n0_
        (try clear hb)
        (try clear hb2)
        (try clear hk)
        (try clear hi)
        refine hK.out _ _ ⟨((HB.out.cell (World.block_lt_of_cell? w _ hw256_0)).trans hw256_0), ((HB.out.cell (World.block_lt_of_cell? w _ hw256_1)).trans hw256_1), ((HB.out.cell (World.block_lt_of_cell? w _ hw258_0)).trans hw258_0), ((HB.out.cell (World.block_lt_of_cell? w _ hw258_1)).trans hw258_1)⟩ (fun hHeld => ?_)
        clear hK K
        refine norm_ (a' := ?_) ?_ ?_
        rotate_left
        ·show Act.put _ (some 18) _ = _
         simp only [Act.put, List.setIfInBounds_toArray, List.set_cons_zero, List.set_cons_succ, i64_w, i32_w]
         rfl
        refine pu (i := 6) (N := some 19) (bl 43 127) (any_of HT_.out (by kernel_rfl)) ?_
        refine pu (i := 7) (N := some 20) (bl 43 255) (any_of HT_.out (by kernel_rfl)) ?_
        refine pu (i := 8) (N := some 21) (bl 43 511) (any_of HT_.out (by kernel_rfl)) ?_
        refine pu (i := 9) (N := some 22) (bl 43 1023) (any_of HT_.out (by kernel_rfl)) ?_
        refine pu (i := 10) (N := some 23) (bl 43 2047) (any_of HT_.out (by kernel_rfl)) ?_
        refine pu (i := 11) (N := some 24) (bl 43 4095) (any_of HT_.out (by kernel_rfl)) ?_
        refine ta (i := 12) (N := some 25) (bl 43 8191) (take_ofW HT_.out HW_.out (by kernel_rfl)) hHeld ?_
        refine one_ (i := 13) (N := some 26) (bl 43 16383) rfl rfl (one_of HT_.out (by kernel_rfl)) (by decide) (fun K hK => ?_)
        refine goes_ Try.func32 (by kernel_rfl) rfl #[.int .i64 ((rd_T41 l0 x3_1).f1)] (by rfl) rfl rfl (by (try simp only [List.map_toArray, List.map_cons, List.map_nil]); first | done | rfl | (simp only [List.length_drop, List.length_take]; rfl)) ?_
        with_reducible refine (erasureref06_countOK.calls ((rd_T41 l0 x3_1).f1) false _ A7.out).mono ?_
        rintro e w' ⟨rfl, ⟨nd, rfl⟩⟩
        refine ⟨_, rfl, ?_⟩
        refine hK.out _ _ ⟨((HB.out.cell (World.block_lt_of_cell? w _ hw256_0)).trans hw256_0), ((HB.out.cell (World.block_lt_of_cell? w _ hw256_1)).trans hw256_1), ((HB.out.cell (World.block_lt_of_cell? w _ hw258_0)).trans hw258_0), ((HB.out.cell (World.block_lt_of_cell? w _ hw258_1)).trans hw258_1)⟩ (fun hHeld => ?_)
        clear hK K
        refine norm_ (a' := ?_) ?_ ?_
        rotate_left
        ·show Act.put _ (some 26) _ = _
         simp only [Act.put, List.setIfInBounds_toArray, List.set_cons_zero, List.set_cons_succ, i64_w, i32_w]
         rfl
        refine pu (i := 14) (N := some 27) (bl 43 32767) (any_of HT_.out (by kernel_rfl)) ?_
        refine pu (i := 15) (N := some 28) (bl 43 65535) (any_of HT_.out (by kernel_rfl)) ?_
        refine pu (i := 16) (N := some 29) (bl 43 131071) (any_of HT_.out (by kernel_rfl)) ?_
        refine po (i := 17) (N := some 30) (bl 43 262143) (any_of HT_.out (by kernel_rfl)) ?_
        refine po (i := 18) (N := some 31) (bl 43 524287) (any_of HT_.out (by kernel_rfl)) ?_
        refine po (i := 19) (N := some 32) (bl 43 1048575) (any_of HT_.out (by kernel_rfl)) ?_
        refine po (i := 20) (N := some 33) (bl 43 2097151) (any_of HT_.out (by kernel_rfl)) ?_
        refine po (i := 21) (N := some 34) (bl 43 4194303) (any_of HT_.out (by kernel_rfl)) ?_
        refine po (i := 22) (N := some 35) (bl 43 8388607) (any_of HT_.out (by kernel_rfl)) ?_
        refine pu (i := 23) (N := some 36) (bl 43 16777215) (any_of HT_.out (by kernel_rfl)) ?_
        refine pu (i := 24) (N := some 37) (bl 43 33554431) (any_of HT_.out (by kernel_rfl)) ?_
        refine po (i := 25) (N := some 38) (bl 43 67108863) (any_of HT_.out (by kernel_rfl)) ?_
        refine po (i := 26) (N := some 39) (bl 43 134217727) (any_of HT_.out (by kernel_rfl)) ?_
        refine po (i := 27) (N := some 40) (bl 43 268435455) (any_of HT_.out (by kernel_rfl)) ?_
        refine po (i := 28) (N := some 41) (bl 43 536870911) (any_of HT_.out (by kernel_rfl)) ?_
        refine po (i := 29) (N := some 42) (bl 43 1073741823) (any_of HT_.out (by kernel_rfl)) ?_
        refine po (i := 30) (N := some 43) (bl 43 2147483647) (any_of HT_.out (by kernel_rfl)) ?_
        refine po (i := 31) (N := some 44) (bl 43 4294967295) (any_of HT_.out (by kernel_rfl)) ?_
        refine po (i := 32) (N := some 45) (bl 43 8589934591) (any_of HT_.out (by kernel_rfl)) ?_
        refine po (i := 33) (N := some 46) (bl 43 17179869183) (any_of HT_.out (by kernel_rfl)) ?_
        refine po (i := 34) (N := some 47) (bl 43 34359738367) (any_of HT_.out (by kernel_rfl)) ?_
        refine po (i := 35) (N := some 48) (bl 43 68719476735) (any_of HT_.out (by kernel_rfl)) ?_
        refine po (i := 36) (N := some 49) (bl 43 137438953471) (any_of HT_.out (by kernel_rfl)) ?_
        refine po (i := 37) (N := some 50) (bl 43 274877906943) (any_of HT_.out (by kernel_rfl)) ?_
        refine po (i := 38) (N := some 51) (bl 43 549755813887) (any_of HT_.out (by kernel_rfl)) ?_
        refine po (i := 39) (N := some 52) (bl 43 1099511627775) (any_of HT_.out (by kernel_rfl)) ?_
        refine po (i := 40) (N := some 53) (bl 43 2199023255551) (any_of HT_.out (by kernel_rfl)) ?_
        refine po (i := 41) (N := some 54) (bl 43 4398046511103) (any_of HT_.out (by kernel_rfl)) ?_
        refine pu (i := 42) (N := some 55) (bl 43 8796093022207) (any_of HT_.out (by kernel_rfl)) ?_
        refine done_ (done_of HT_.out (by kernel_rfl)) ?_
        try go_wp2
        go_ret
        exact ⟨by first | rfl | (simp [errW_none, errW_some] <;> rfl) | (simp [*, errW_none, errW_some] <;> rfl), by repeat (first | (with_reducible first | exact HB.out | apply below_alloc | apply pw_below_drewN | apply below_drew1) | exact HB.out)⟩
      ·replace c6 := Bool.eq_false_iff.mpr c6
       subst c6
       have H1 : (some false) = some r := by rw [if_neg (show ¬ (false = true) by decide)] at H; exact H
       clear H
       have H := H1
       clear H1
       obtain rfl := Option.some.inj H
       try go_wp2
       have n0_ := Aside0.mk (below_drew1 HB.out)
       clear HB
       have HB := n0_
       clear n0_
       have p256 : 0 ≤ (x3_1 : Int) := of_decide_eq_true (by first | (with_reducible assumption) | assumption)
       have q256 : x3_1 < (l0.length : Int) := of_decide_eq_true (by first | (with_reducible assumption) | assumption)
       obtain ⟨ad256, A256_0, c256_0, e256, hx256_0, hx256_1, hl256_0, hi256_0⟩ := at_T41 HR0.out x3_1 p256 q256
       have hw256_1 := hx256_1
       have hw256_0 := hx256_0
       cases e256
       replace hx256_0 := (HB.out.cell (World.block_lt_of_cell? w _ hx256_0)).trans hx256_0
       replace hx256_1 := (HB.out.cell (World.block_lt_of_cell? w _ hx256_1)).trans hx256_1
       have HR256_0 := Aside0.mk hi256_0
       have HC256_0 := Aside0.mk hl256_0
       clear hi256_0 hl256_0
       replace p256 := eq_true p256
       replace q256 := eq_true q256
       refine start_ (n := 43) (S := fun w' => w'.cell? (ad256.add ((x3_1).toNat * 2)) = some (.slice A256_0 ((rd_T41 l0 x3_1).f0).length c256_0) ∧ w'.cell? ⟨(ad256.add ((x3_1).toNat * 2)).block, (ad256.add ((x3_1).toNat * 2)).off + 1, none⟩ = some (.int .i64 ((rd_T41 l0 x3_1).f1))) (ds := []) #[false, false, false, false, false, false, false, false, false, false, false, false, false, false, false, false, false, false, false, false, false, false, false, false, false, false, false, false, false, false, false, false, false, false, false, false, false, false, false, false, false, false, false] (by kernel_rfl) rfl rfl ⟨((HB.out.cell (World.block_lt_of_cell? w _ hw256_0)).trans hw256_0), ((HB.out.cell (World.block_lt_of_cell? w _ hw256_1)).trans hw256_1)⟩ (fun hHeld => ?_); refine with_tabW erasureref06_Valid.tab6 erasureref06_Valid.bits6 (fun HT_ HW_ => ?_)
       generalize wr.drew = w28 at HB HR256_0 hx256_0 hx256_1 hHeld ⊢
       refine pu (i := 0) (N := some 13) (bl 43 1) (any_of HT_.out (by kernel_rfl)) ?_
       refine pu (i := 1) (N := some 14) (bl 43 3) (any_of HT_.out (by kernel_rfl)) ?_
       refine pu (i := 2) (N := some 15) (bl 43 7) (any_of HT_.out (by kernel_rfl)) ?_
       refine pu (i := 3) (N := some 16) (bl 43 15) (any_of HT_.out (by kernel_rfl)) ?_
       refine ta (i := 4) (N := some 17) (bl 43 31) (take_ofW HT_.out HW_.out (by kernel_rfl)) hHeld ?_
       refine one_ (i := 5) (N := some 18) (bl 43 63) rfl rfl (one_of HT_.out (by kernel_rfl)) (by decide) (fun K hK => ?_)
       refine goes_ Try.func31 (by kernel_rfl) rfl #[.slice A256_0 ((rd_T41 l0 x3_1).f0).length c256_0] (by rfl) rfl rfl (by (try simp only [List.map_toArray, List.map_cons, List.map_nil]); first | done | rfl | (simp only [List.length_drop, List.length_take]; rfl)) ?_
       with_reducible refine (erasureref01_ValidRow.calls k1 _ _ ((rd_T41 l0 x3_1).f0) false _ ?side1 ?side2 A5.out).mono ?_
       (case side1 => repeat (first | exact (Kd.C_below HR256_0.out HB.out) | (with_reducible refine Kd.C_alloc ?_ _) | (with_reducible refine Kd.C_drewN ?_ _) | (with_reducible refine Kd.C_drew ?_)))
       (case side2 => exact HC256_0.out)
       rintro e w29 ⟨rfl, hb⟩
       refine ⟨_, rfl, ?_⟩
       have n0_ := Aside0.mk (below_step (by repeat (first | (with_reducible first | exact HB.out | apply below_alloc | apply pw_below_drewN | apply below_drew1) | exact HB.out)) hb)
       clear HB
       have HB := n0_
       clear n0_
       (try clear hb)
       (try clear hb2)
       (try clear hk)
       (try clear hi)
       refine hK.out _ _ ⟨((HB.out.cell (World.block_lt_of_cell? w _ hw256_0)).trans hw256_0), ((HB.out.cell (World.block_lt_of_cell? w _ hw256_1)).trans hw256_1)⟩ (fun hHeld => ?_)
       clear hK K
       refine norm_ (a' := ?_) ?_ ?_
       rotate_left
       ·show Act.put _ (some 18) _ = _
        simp only [Act.put, List.setIfInBounds_toArray, List.set_cons_zero, List.set_cons_succ, i64_w, i32_w]
        rfl
       refine pu (i := 6) (N := some 19) (bl 43 127) (any_of HT_.out (by kernel_rfl)) ?_
       refine pu (i := 7) (N := some 20) (bl 43 255) (any_of HT_.out (by kernel_rfl)) ?_
       refine po (i := 8) (N := some 21) (bl 43 511) (any_of HT_.out (by kernel_rfl)) ?_
       refine po (i := 9) (N := some 22) (bl 43 1023) (any_of HT_.out (by kernel_rfl)) ?_
       refine po (i := 10) (N := some 23) (bl 43 2047) (any_of HT_.out (by kernel_rfl)) ?_
       refine po (i := 11) (N := some 24) (bl 43 4095) (any_of HT_.out (by kernel_rfl)) ?_
       refine po (i := 12) (N := some 25) (bl 43 8191) (any_of HT_.out (by kernel_rfl)) ?_
       refine po (i := 13) (N := some 26) (bl 43 16383) (any_of HT_.out (by kernel_rfl)) ?_
       refine po (i := 14) (N := some 27) (bl 43 32767) (any_of HT_.out (by kernel_rfl)) ?_
       refine pu (i := 15) (N := some 28) (bl 43 65535) (any_of HT_.out (by kernel_rfl)) ?_
       refine pu (i := 16) (N := some 29) (bl 43 131071) (any_of HT_.out (by kernel_rfl)) ?_
       refine po (i := 17) (N := some 30) (bl 43 262143) (any_of HT_.out (by kernel_rfl)) ?_
       refine po (i := 18) (N := some 31) (bl 43 524287) (any_of HT_.out (by kernel_rfl)) ?_
       refine po (i := 19) (N := some 32) (bl 43 1048575) (any_of HT_.out (by kernel_rfl)) ?_
       refine po (i := 20) (N := some 33) (bl 43 2097151) (any_of HT_.out (by kernel_rfl)) ?_
       refine po (i := 21) (N := some 34) (bl 43 4194303) (any_of HT_.out (by kernel_rfl)) ?_
       refine po (i := 22) (N := some 35) (bl 43 8388607) (any_of HT_.out (by kernel_rfl)) ?_
       refine pu (i := 23) (N := some 36) (bl 43 16777215) (any_of HT_.out (by kernel_rfl)) ?_
       refine pu (i := 24) (N := some 37) (bl 43 33554431) (any_of HT_.out (by kernel_rfl)) ?_
       refine po (i := 25) (N := some 38) (bl 43 67108863) (any_of HT_.out (by kernel_rfl)) ?_
       refine po (i := 26) (N := some 39) (bl 43 134217727) (any_of HT_.out (by kernel_rfl)) ?_
       refine po (i := 27) (N := some 40) (bl 43 268435455) (any_of HT_.out (by kernel_rfl)) ?_
       refine po (i := 28) (N := some 41) (bl 43 536870911) (any_of HT_.out (by kernel_rfl)) ?_
       refine po (i := 29) (N := some 42) (bl 43 1073741823) (any_of HT_.out (by kernel_rfl)) ?_
       refine po (i := 30) (N := some 43) (bl 43 2147483647) (any_of HT_.out (by kernel_rfl)) ?_
       refine po (i := 31) (N := some 44) (bl 43 4294967295) (any_of HT_.out (by kernel_rfl)) ?_
       refine po (i := 32) (N := some 45) (bl 43 8589934591) (any_of HT_.out (by kernel_rfl)) ?_
       refine po (i := 33) (N := some 46) (bl 43 17179869183) (any_of HT_.out (by kernel_rfl)) ?_
       refine po (i := 34) (N := some 47) (bl 43 34359738367) (any_of HT_.out (by kernel_rfl)) ?_
       refine po (i := 35) (N := some 48) (bl 43 68719476735) (any_of HT_.out (by kernel_rfl)) ?_
       refine po (i := 36) (N := some 49) (bl 43 137438953471) (any_of HT_.out (by kernel_rfl)) ?_
       refine po (i := 37) (N := some 50) (bl 43 274877906943) (any_of HT_.out (by kernel_rfl)) ?_
       refine po (i := 38) (N := some 51) (bl 43 549755813887) (any_of HT_.out (by kernel_rfl)) ?_
       refine po (i := 39) (N := some 52) (bl 43 1099511627775) (any_of HT_.out (by kernel_rfl)) ?_
       refine po (i := 40) (N := some 53) (bl 43 2199023255551) (any_of HT_.out (by kernel_rfl)) ?_
       refine po (i := 41) (N := some 54) (bl 43 4398046511103) (any_of HT_.out (by kernel_rfl)) ?_
       refine pu (i := 42) (N := some 55) (bl 43 8796093022207) (any_of HT_.out (by kernel_rfl)) ?_
       refine done_ (done_of HT_.out (by kernel_rfl)) ?_
       try go_wp2
       go_ret
       exact ⟨by first | rfl | (simp [errW_none, errW_some] <;> rfl) | (simp [*, errW_none, errW_some] <;> rfl), by repeat (first | (with_reducible first | exact HB.out | apply below_alloc | apply pw_below_drewN | apply below_drew1) | exact HB.out)⟩
     ·rw [if_neg c4] at H
      exact absurd H (by simp)
    ·rw [if_neg c3] at H
     have c3b0 : decide (x3_1 < (l0.length : Int)) = false := decide_eq_false c3
     clear c3
     obtain rfl := Option.some.inj H
     go_wp2
     go_ret
     exact ⟨by first | rfl | (simp [errW_none, errW_some] <;> rfl) | (simp [*, errW_none, errW_some] <;> rfl), by repeat (first | (with_reducible first | exact HB.out | apply below_alloc | apply pw_below_drewN | apply below_drew1) | exact HB.out)⟩
end Go.Proofs.Ytjhnpaenhdbhpaa.P
namespace Go.Proofs.Ytjhnpaenhdbhpaa.P
open Go.RowKit Go.Proofs.YtjhnpaenhdbhpaaW.PrintWords Go.Proofs.YtjhnpaenhdbhpaaW.PrintLast Go.Proofs.YtjhnpaenhdbhpaaW.PrintMore
attribute [local go_sem] max2_int min2_int max_two min_two max_three min_three max_four min_four
set_option linter.unusedVariables false
set_option linter.unusedSimpArgs false
mutual
def erasureref35_Publish.j0 : Nat → Int → List (S41) → Bool → ByteArray → ByteArray → Int → Option ((List (S43)))
 | 0, _, _, _, _, _, _ => none
 | k + 1, x1, x2, x22, x265000, x265001, x265002 => if x22 = true then (some ([] : List (S43))) else (erasureref35_Publish.l0 k x1 x2 ([] : List (S43)) 0 x265000 x265001 x265002)
def erasureref35_Publish.l0 : Nat → Int → List (S41) → List (S43) → Int → ByteArray → ByteArray → Int → Option ((List (S43)))
 | 0, _, _, _, _, _, _, _ => none
 | k + 1, x1, x2, x7, x8, x265000, x265001, x265002 => if x8 < (x2.length : Int) then (if 0 ≤ x8 then (if ((rd_T41 x2 x8).f1) = 1 then (if x1 ≥ (((rd_T41 x2 x8).f0).length : Int) then (erasureref35_Publish.j2 k x1 x2 x7 x8 ((rd_T41 x2 x8).f0) true x265000 x265001 x265002) else (if 0 ≤ x1 then (if x1 < (((rd_T41 x2 x8).f0).length : Int) then (erasureref35_Publish.j2 k x1 x2 x7 x8 ((rd_T41 x2 x8).f0) (((rd_T38 ((rd_T41 x2 x8).f0) x1).f0) != 1) x265000 x265001 x265002) else (none)) else (none))) else (erasureref35_Publish.j2 k x1 x2 x7 x8 ((rd_T41 x2 x8).f0) true x265000 x265001 x265002)) else (none)) else (some x7)
def erasureref35_Publish.j2 : Nat → Int → List (S41) → List (S43) → Int → List (S38) → Bool → ByteArray → ByteArray → Int → Option ((List (S43)))
 | 0, _, _, _, _, _, _, _, _, _ => none
 | k + 1, x1, x2, x7, x8, x9, x53, x265000, x265001, x265002 => if x53 = true then (erasureref35_Publish.l0 k x1 x2 x7 (wrap64 (x8 + 1)) x265000 x265001 x265002) else (if 0 ≤ x1 then (if x1 < (x9.length : Int) then (if ((rd_T38 x9 x1).f1) ≥ x265002 then (if x1 ≤ (x9.length : Int) then ((erasureref26_CleanRow.f k (x9.take (x1 : Int).toNat)).bind fun t274 => (if x265002 = 0 then (none) else (if x7.length < 4398046511104 then (erasureref35_Publish.l0 k x1 x2 (x7 ++ [(⟨t274, wrap64 (((rd_T38 x9 x1).f1) - (Int.tmod ((rd_T38 x9 x1).f1) x265002))⟩ : S43)]) (wrap64 (x8 + 1)) x265000 x265001 x265002) else (none)))) else (none)) else (erasureref35_Publish.l0 k x1 x2 x7 (wrap64 (x8 + 1)) x265000 x265001 x265002)) else (none)) else (none))
end
def erasureref35_Publish.f (k : Nat) (a0_0 : ByteArray) (a0_1 : ByteArray) (a0_2 : Int) (a1 : Int) (l2 : List (S41)) : Option ((List (S43))) := if a0_2 < 1 then (erasureref35_Publish.j0 k a1 l2 true a0_0 a0_1 a0_2) else (if a1 < 0 then (erasureref35_Publish.j0 k a1 l2 true a0_0 a0_1 a0_2) else ((erasureref06_Valid.f k l2).bind fun t265 => (erasureref35_Publish.j0 k a1 l2 (!t265) a0_0 a0_1 a0_2)))
def erasureref35_Publish.T11 : Bool × List (List Nat × List Nat) := (true, [([], []), ([], []), ([], []), ([1, 2], [1, 2]), ([3], [3]), ([], []), ([], []), ([], []), ([7], [7]), ([6, 8], [6, 8]), ([5, 9], [5, 9]), ([4, 10], [4, 10]), ([11], [11]), ([0, 12, 4], [0, 12]), ([13, 13, 0, 1, 2, 3, 4, 5, 6, 7, 8, 9, 10, 11, 12, 13], [0, 13])])
def erasureref35_Publish.B11 : List Nat := [0, 0, 0, 6, 14, 0, 0, 0, 128, 448, 992, 2046, 4094, 8191, 16383]
theorem erasureref35_Publish.tab11 : rtab .any (opsOf Try.f16 11) = erasureref35_Publish.T11 := by kernel_rfl
theorem erasureref35_Publish.bits11 : waitsOk erasureref35_Publish.T11.2 erasureref35_Publish.B11 = true := by kernel_rfl
set_option maxHeartbeats 8000000 in
set_option maxRecDepth 100000 in
theorem erasureref35_Publish.calls (k : Nat) (a0_0 : ByteArray) (a0_1 : ByteArray) (a0_2 : Int) (a1 : Int) (A2 : Option Addr) (c2 : Nat) (l2 : List (S41)) (r : List (S43)) (w : World) (hr2 : Kd.C k41 w A2 l2.length l2) (hc2 : l2.length ≤ c2) (h : erasureref35_Publish.f k a0_0 a0_1 a0_2 a1 l2 = some r) :
  Calls Try.prog 16 #[.agg #[.string a0_0, .string a0_1, .int .i64 a0_2], .int .i64 a1, .slice A2 l2.length c2] w fun e w' => ∃ v0_ : Value, e = .returned (v0_) ∧ Kd.S k43 43 w' w.heap.size (fun _ => True) v0_ r ∧ Below w.heap.size w w' := by
 have hu23 := Try.underlying23
 have hu43 := Try.underlying43
 have HR2 := Aside0.mk hr2
 have HC2 := Aside0.mk hc2
 clear hr2 hc2
 have HB := Aside0.mk (Below.refl w.heap.size w)
 have H : (if a0_2 < 1 then (erasureref35_Publish.j0 k a1 l2 true a0_0 a0_1 a0_2) else (if a1 < 0 then (erasureref35_Publish.j0 k a1 l2 true a0_0 a0_1 a0_2) else ((erasureref06_Valid.f k l2).bind fun t265 => (erasureref35_Publish.j0 k a1 l2 (!t265) a0_0 a0_1 a0_2)))) = some r := h
 clear h
 have HC4 := Aside0.mk H
 clear H
 go_enter Try.func16, Try.ntmps16
 go_upto_region 1 with (first | ((with_reducible refine gate_dst (N := 3) rfl ?_); (try (refine gate_guard (by rfl) ?_; dsimp only)); refine box_event ?hg (N := 3) ?hd (cs := #[.string a0_0, .string a0_1, .int .i64 a0_2]) (t := 23) ?hr ?_; (case hd => rfl); (case hg => rfl); (case hr => first | (go_simp; done) | (go_simp; rfl)); intro gb264 hg w5 hbox hb; have n0_ := Aside0.mk (below_step (by repeat (first | (with_reducible first | exact HB.out | apply below_alloc | apply pw_below_drewN | apply below_drew1) | exact HB.out)) hb); have n1_ := Aside0.mk (hbox); have n2_ := Aside0.mk ((by rw [hg]; exact (below_size (by repeat (first | (with_reducible first | exact HB.out | apply below_alloc | apply pw_below_drewN | apply below_drew1) | exact HB.out))) : w.heap.size ≤ gb264)); have n3_ := Aside0.mk ((by rw [hg]; exact (below_size (by repeat (first | (with_reducible first | exact HB.out | apply below_alloc | apply pw_below_drewN | apply below_drew1) | exact HB.out))) : w.heap.size ≤ gb264)); clear HB; have HB := n0_; have BK264 := n1_; have GW264 := n2_; have GE264 := n3_; clear n0_ n1_ n2_ n3_; clear hb hbox hg))
 (try simp only [Act.put, List.setIfInBounds_toArray, List.set_cons_zero, List.set_cons_succ])
 go_cut [22] (fun v22 wc => ∃ (kq : Nat) (x22_3 : Bool), v22 = .bool x22_3 ∧ Aside0 (erasureref35_Publish.j0 kq a1 l2 x22_3 a0_0 a0_1 a0_2 = some r) ∧ Aside0 (kq ≤ k) ∧ Aside0 (wc.heap[gb264]? = some (.cells #[.string a0_0, .string a0_1, .int .i64 a0_2] 23 (0, 0))) ∧ Aside0 (Below w.heap.size w wc))
 case first =>
  have H := HC4.out
  clear HC4
  by_cases c6 : a0_2 < 1
  ·rw [if_pos c6] at H
   have c6b0 : decide (a0_2 < 1) = true := decide_eq_true c6
   clear c6
   (first | rw [c6b0] | (simp only [i64_w, i32_w]; rw [c6b0]) | skip)
   have H' := Aside0.mk H
   clear H
   have hcz7_0 : w5.cell? ⟨gb264, 0, none⟩ = some (.string a0_0) := (blk_cell BK264.out 0).trans rfl
   have hcz7_1 : w5.cell? ⟨gb264, 1, none⟩ = some (.string a0_1) := (blk_cell BK264.out 1).trans rfl
   have hcz7_2 : w5.cell? ⟨gb264, 2, none⟩ = some (.int .i64 a0_2) := (blk_cell BK264.out 2).trans rfl
   have hfz7_0 := blk_frozen BK264.out 0
   have hfz7_1 := blk_frozen BK264.out 1
   have hfz7_2 := blk_frozen BK264.out 2
   go_wp2
   go_meet
   case rel => exact ⟨_, (true), (by first | rfl | (simp; done) | (simp [*]; done)), H', ⟨by first | omega | exact Nat.le_refl _⟩, ⟨by (with_reducible repeat (first | refine blk_drewN ?_ _ | refine blk_drew ?_ | refine blk_alloc ?_ _)); exact BK264.out⟩, ⟨by repeat (first | (with_reducible first | exact HB.out | apply below_alloc | apply pw_below_drewN | apply below_drew1 | refine below_set ?_ GE264.out) | exact HB.out)⟩⟩
  ·rw [if_neg c6] at H
   have c6b0 : decide (a0_2 < 1) = false := decide_eq_false c6
   clear c6
   (first | rw [c6b0] | (simp only [i64_w, i32_w]; rw [c6b0]) | skip)
   by_cases c8 : a1 < 0
   ·rw [if_pos c8] at H
    have c8b0 : decide (a1 < 0) = true := decide_eq_true c8
    clear c8
    have H' := Aside0.mk H
    clear H
    have hcz9_0 : w5.cell? ⟨gb264, 0, none⟩ = some (.string a0_0) := (blk_cell BK264.out 0).trans rfl
    have hcz9_1 : w5.cell? ⟨gb264, 1, none⟩ = some (.string a0_1) := (blk_cell BK264.out 1).trans rfl
    have hcz9_2 : w5.cell? ⟨gb264, 2, none⟩ = some (.int .i64 a0_2) := (blk_cell BK264.out 2).trans rfl
    have hfz9_0 := blk_frozen BK264.out 0
    have hfz9_1 := blk_frozen BK264.out 1
    have hfz9_2 := blk_frozen BK264.out 2
    go_wp2
    go_meet
    case rel => exact ⟨_, (true), (by first | rfl | (simp; done) | (simp [*]; done)), H', ⟨by first | omega | exact Nat.le_refl _⟩, ⟨by (with_reducible repeat (first | refine blk_drewN ?_ _ | refine blk_drew ?_ | refine blk_alloc ?_ _)); exact BK264.out⟩, ⟨by repeat (first | (with_reducible first | exact HB.out | apply below_alloc | apply pw_below_drewN | apply below_drew1 | refine below_set ?_ GE264.out) | exact HB.out)⟩⟩
   ·rw [if_neg c8] at H
    have c8b0 : decide (a1 < 0) = false := decide_eq_false c8
    clear c8
    replace H := Option.bind_eq_some_iff.mp H
    obtain ⟨t265, A100, H⟩ := H
    replace H : (erasureref35_Publish.j0 k a1 l2 (!t265) a0_0 a0_1 a0_2) = some r := H
    have A10 := Aside0.mk A100
    clear A100
    have H' := Aside0.mk H
    clear H
    have hcz11_0 : w5.cell? ⟨gb264, 0, none⟩ = some (.string a0_0) := (blk_cell BK264.out 0).trans rfl
    have hcz11_1 : w5.cell? ⟨gb264, 1, none⟩ = some (.string a0_1) := (blk_cell BK264.out 1).trans rfl
    have hcz11_2 : w5.cell? ⟨gb264, 2, none⟩ = some (.int .i64 a0_2) := (blk_cell BK264.out 2).trans rfl
    have hfz11_0 := blk_frozen BK264.out 0
    have hfz11_1 := blk_frozen BK264.out 1
    have hfz11_2 := blk_frozen BK264.out 2
    go_wp2_with (first | (go_at_call 38; (with_reducible refine (erasureref06_Valid.calls k _ _ l2 t265 _ ?side1 ?side2 A10.out).mono ?_); (case side1 => repeat (first | exact (Kd.C_below HR2.out HB.out) | (with_reducible refine Kd.C_alloc ?_ _) | (with_reducible refine Kd.C_drewN ?_ _) | (with_reducible refine Kd.C_drew ?_))); (case side2 => exact HC2.out); rintro e w12 ⟨rfl, hb⟩; have n0_ := Aside0.mk (blk_below (g := gb264) (o := .cells #[.string a0_0, .string a0_1, .int .i64 a0_2] 23 (0, 0)) (by (with_reducible repeat (first | refine blk_drewN ?_ _ | refine blk_drew ?_ | refine blk_alloc ?_ _)); exact BK264.out) hb); have n1_ := Aside0.mk (below_step (by repeat (first | (with_reducible first | exact HB.out | apply below_alloc | apply pw_below_drewN | apply below_drew1 | refine below_set ?_ GE264.out) | exact HB.out)) hb); clear BK264; clear HB; have BK264 := n0_; have HB := n1_; clear n0_ n1_; (try clear hb); (try clear hb2); (try clear hk); (try clear hi)))
    go_meet
    case rel => exact ⟨_, (!t265), (by first | rfl | (simp; done) | (simp [*]; done)), H', ⟨by first | omega | exact Nat.le_refl _⟩, ⟨by (with_reducible repeat (first | refine blk_drewN ?_ _ | refine blk_drew ?_ | refine blk_alloc ?_ _)); exact BK264.out⟩, ⟨by repeat (first | (with_reducible first | exact HB.out | apply below_alloc | apply pw_below_drewN | apply below_drew1 | refine below_set ?_ GE264.out) | exact HB.out)⟩⟩
 case rest =>
  clear HC4
  try clear c1
  try clear c2
  try clear p2
  try clear c6
  try clear c6b0
  try clear c8
  try clear c8b0
  try clear hcz11_0
  try clear hcz11_1
  try clear hcz11_2
  try clear hcz7_0
  try clear hcz7_1
  try clear hcz7_2
  try clear hcz9_0
  try clear hcz9_1
  try clear hcz9_2
  try clear hfz11_0
  try clear hfz11_1
  try clear hfz11_2
  try clear hfz7_0
  try clear hfz7_1
  try clear hfz7_2
  try clear hfz9_0
  try clear hfz9_1
  try clear hfz9_2
  obtain ⟨kq, x22_3, rfl, HA, HJ3, BK264, HB⟩ := hcut
  cases kq with
  | zero => exact absurd HA.out (by simp [erasureref35_Publish.j0])
  | succ kj3 =>
   have H := HA.out
   clear HA
   simp only [erasureref35_Publish.j0] at H
   by_cases c13 : x22_3 = true
   ·subst c13
    have H1 : (some ([] : List (S43))) = some r := by rw [if_pos rfl] at H; exact H
    clear H
    have H := H1
    clear H1
    obtain rfl := Option.some.inj H
    go_wp2
    go_ret
    exact ⟨_, by first | rfl | (simp [errW_none, errW_some] <;> rfl) | (simp [*, errW_none, errW_some] <;> rfl), by first | exact Kd.S_nil _ _ _ _ _ | exact Kd.N_nil _ _ _ _ _ | exact Kd.V_nil _ _ _ _ _ | exact Kd.Q_nil _ _ _ _ _ | exact Kd.R_nil _ _ _ _ _, by repeat (first | (with_reducible first | exact HB.out | apply below_alloc | apply pw_below_drewN | apply below_drew1 | refine below_set ?_ GE264.out) | exact HB.out)⟩
   ·replace c13 := Bool.eq_false_iff.mpr c13
    subst c13
    have H1 : (erasureref35_Publish.l0 kj3 a1 l2 ([] : List (S43)) 0 a0_0 a0_1 a0_2) = some r := by rw [if_neg (show ¬ (false = true) by decide)] at H; exact H
    clear H
    have H := H1
    clear H1
    have H' := Aside0.mk H
    clear H
    go_wp2
    go_loopg [7, 8] kj3 (fun kq v7 v8 w' => ∃ (x7_2 : List (S43)) (x8_2 : Int), v8 = .int .i64 x8_2 ∧ Aside0 (erasureref35_Publish.l0 kq a1 l2 x7_2 x8_2 a0_0 a0_1 a0_2 = some r) ∧ Aside0 (kq ≤ kj3) ∧ Aside0 (Kd.S k43 43 w' w.heap.size (fun _ => True) v7 x7_2) ∧ Aside0 (w'.heap[gb264]? = some (.cells #[.string a0_0, .string a0_1, .int .i64 a0_2] 23 (0, 0))) ∧ Aside0 (Below w.heap.size w w'))
    case atStart => exact ⟨(([] : List (S43))), (0), (by first | rfl | (simp; done) | (simp [*]; done)), H', ⟨Nat.le_refl _⟩, ⟨by first | exact Kd.S_nil _ _ _ _ _ | exact Kd.N_nil _ _ _ _ _ | exact Kd.V_nil _ _ _ _ _ | exact Kd.Q_nil _ _ _ _ _ | exact Kd.R_nil _ _ _ _ _⟩, ⟨by (with_reducible repeat (first | refine blk_drewN ?_ _ | refine blk_drew ?_ | refine blk_alloc ?_ _)); exact BK264.out⟩, ⟨by repeat (first | (with_reducible first | exact HB.out | apply below_alloc | apply pw_below_drewN | apply below_drew1 | refine below_set ?_ GE264.out) | exact HB.out)⟩⟩
    case round =>
     clear H'
     try clear c1
     try clear c2
     try clear p2
     try clear c6
     try clear c6b0
     try clear c8
     try clear c8b0
     try clear c13
     try clear hcz11_0
     try clear hcz11_1
     try clear hcz11_2
     try clear hcz7_0
     try clear hcz7_1
     try clear hcz7_2
     try clear hcz9_0
     try clear hcz9_1
     try clear hcz9_2
     try clear hfz11_0
     try clear hfz11_1
     try clear hfz11_2
     try clear hfz7_0
     try clear hfz7_1
     try clear hfz7_2
     try clear hfz9_0
     try clear hfz9_1
     try clear hfz9_2
     try clear p2
     obtain ⟨x7_2, x8_2, rfl, HA, HK2, HO_7, BK264, HB⟩ := hrel
     cases gk with
     | zero => exact absurd HA.out (by simp [erasureref35_Publish.l0])
     | succ k2 =>
      have H := HA.out
      clear HA
      simp only [erasureref35_Publish.l0] at H
      by_cases c14 : x8_2 < (l2.length : Int)
      ·rw [if_pos c14] at H
       have c14b0 : decide (x8_2 < (l2.length : Int)) = true := decide_eq_true c14
       clear c14
       by_cases c15 : 0 ≤ x8_2
       ·rw [if_pos c15] at H
        have c15b0 : decide (0 ≤ x8_2) = true := decide_eq_true c15
        clear c15
        have HC16 := Aside0.mk H
        clear H
        have p266 : 0 ≤ (x8_2 : Int) := of_decide_eq_true (by first | (with_reducible assumption) | assumption)
        have q266 : x8_2 < (l2.length : Int) := of_decide_eq_true (by first | (with_reducible assumption) | assumption)
        obtain ⟨ad266, A266_0, c266_0, e266, hx266_0, hx266_1, hl266_0, hi266_0⟩ := at_T41 HR2.out x8_2 p266 q266
        cases e266
        replace hx266_0 := (HB.out.cell (World.block_lt_of_cell? w _ hx266_0)).trans hx266_0
        replace hx266_1 := (HB.out.cell (World.block_lt_of_cell? w _ hx266_1)).trans hx266_1
        have HR266_0 := Aside0.mk hi266_0
        have HC266_0 := Aside0.mk hl266_0
        clear hi266_0 hl266_0
        replace p266 := eq_true p266
        replace q266 := eq_true q266
        go_upto_region 8 with (fail)
        go_cut [53] (fun v53 wc => ∃ (kq : Nat) (x53_15 : Bool), v53 = .bool x53_15 ∧ Aside0 (erasureref35_Publish.j2 kq a1 l2 x7_2 x8_2 ((rd_T41 l2 x8_2).f0) x53_15 a0_0 a0_1 a0_2 = some r) ∧ Aside0 (kq ≤ k2) ∧ Aside0 (Kd.S k43 43 wc w.heap.size (fun _ => True) u7 x7_2) ∧ Aside0 (wc.heap[gb264]? = some (.cells #[.string a0_0, .string a0_1, .int .i64 a0_2] 23 (0, 0))) ∧ Aside0 (Below w.heap.size w wc))
        case first =>
         have H := HC16.out
         clear HC16
         by_cases c17 : ((rd_T41 l2 x8_2).f1) = 1
         ·rw [if_pos c17] at H
          have c17b0 : (((rd_T41 l2 x8_2).f1) == 1) = true := beq_iff_eq.mpr c17
          have c17b1 : (((rd_T41 l2 x8_2).f1) != 1) = false := bne_eq_false_iff_eq.mpr c17
          clear c17
          (first | rw [c17b0] | (simp only [i64_w, i32_w]; rw [c17b0]) | skip)
          by_cases c18 : a1 ≥ (((rd_T41 l2 x8_2).f0).length : Int)
          ·rw [if_pos c18] at H
           have c18b0 : decide ((((rd_T41 l2 x8_2).f0).length : Int) ≤ a1) = true := decide_eq_true c18
           clear c18
           have H' := Aside0.mk H
           clear H
           have p267 : 0 ≤ (x8_2 : Int) := of_decide_eq_true (by first | (with_reducible assumption) | assumption)
           have q267 : x8_2 < (l2.length : Int) := of_decide_eq_true (by first | (with_reducible assumption) | assumption)
           obtain ⟨ad267, A267_0, c267_0, e267, hx267_0, hx267_1, hl267_0, hi267_0⟩ := at_T41 HR2.out x8_2 p267 q267
           obtain rfl : ad266 = ad267 := (by injection e267)
           replace hx267_0 := (HB.out.cell (World.block_lt_of_cell? w _ hx267_0)).trans hx267_0
           replace hx267_1 := (HB.out.cell (World.block_lt_of_cell? w _ hx267_1)).trans hx267_1
           have HR267_0 := Aside0.mk hi267_0
           have HC267_0 := Aside0.mk hl267_0
           clear hi267_0 hl267_0
           replace p267 := eq_true p267
           replace q267 := eq_true q267
           go_wp2
           go_meet
           case rel => exact ⟨_, (true), (by first | rfl | (simp; done) | (simp [*]; done)), H', ⟨by have := HJ3.out; have := HK2.out; first | omega | exact Nat.le_refl _⟩, ⟨by (with_reducible repeat (first | apply Kd.S_alloc | apply Kd.S_drewN | apply Kd.S_drew)); exact HO_7.out⟩, ⟨by (with_reducible repeat (first | refine blk_drewN ?_ _ | refine blk_drew ?_ | refine blk_alloc ?_ _)); exact BK264.out⟩, ⟨by repeat (first | (with_reducible first | exact HB.out | apply below_alloc | apply pw_below_drewN | apply below_drew1 | refine below_set ?_ GE264.out) | exact HB.out)⟩⟩
          ·rw [if_neg c18] at H
           have c18b0 : decide ((((rd_T41 l2 x8_2).f0).length : Int) ≤ a1) = false := decide_eq_false c18
           clear c18
           by_cases c19 : 0 ≤ a1
           ·rw [if_pos c19] at H
            have c19b0 : decide (0 ≤ a1) = true := decide_eq_true c19
            clear c19
            by_cases c20 : a1 < (((rd_T41 l2 x8_2).f0).length : Int)
            ·rw [if_pos c20] at H
             have c20b0 : decide (a1 < (((rd_T41 l2 x8_2).f0).length : Int)) = true := decide_eq_true c20
             clear c20
             have H' := Aside0.mk H
             clear H
             have p267 : 0 ≤ (x8_2 : Int) := of_decide_eq_true (by first | (with_reducible assumption) | assumption)
             have q267 : x8_2 < (l2.length : Int) := of_decide_eq_true (by first | (with_reducible assumption) | assumption)
             obtain ⟨ad267, A267_0, c267_0, e267, hx267_0, hx267_1, hl267_0, hi267_0⟩ := at_T41 HR2.out x8_2 p267 q267
             obtain rfl : ad266 = ad267 := (by injection e267)
             replace hx267_0 := (HB.out.cell (World.block_lt_of_cell? w _ hx267_0)).trans hx267_0
             replace hx267_1 := (HB.out.cell (World.block_lt_of_cell? w _ hx267_1)).trans hx267_1
             have HR267_0 := Aside0.mk hi267_0
             have HC267_0 := Aside0.mk hl267_0
             clear hi267_0 hl267_0
             replace p267 := eq_true p267
             replace q267 := eq_true q267
             have p268 : 0 ≤ (a1 : Int) := of_decide_eq_true (by first | (with_reducible assumption) | assumption)
             have q268 : a1 < (((rd_T41 l2 x8_2).f0).length : Int) := of_decide_eq_true (by first | (with_reducible assumption) | assumption)
             obtain ⟨ad268, e268, hx268_0, hx268_1, hx268_2⟩ := at_T38 HR266_0.out a1 p268 q268
             cases e268
             replace hx268_0 := (HB.out.cell (World.block_lt_of_cell? w _ hx268_0)).trans hx268_0
             replace hx268_1 := (HB.out.cell (World.block_lt_of_cell? w _ hx268_1)).trans hx268_1
             replace hx268_2 := (HB.out.cell (World.block_lt_of_cell? w _ hx268_2)).trans hx268_2
             replace p268 := eq_true p268
             replace q268 := eq_true q268
             go_wp2
             go_meet
             case rel => exact ⟨_, ((((rd_T38 ((rd_T41 l2 x8_2).f0) a1).f0) != 1)), (by first | rfl | (simp; done) | (simp [*]; done)), H', ⟨by have := HJ3.out; have := HK2.out; first | omega | exact Nat.le_refl _⟩, ⟨by (with_reducible repeat (first | apply Kd.S_alloc | apply Kd.S_drewN | apply Kd.S_drew)); exact HO_7.out⟩, ⟨by (with_reducible repeat (first | refine blk_drewN ?_ _ | refine blk_drew ?_ | refine blk_alloc ?_ _)); exact BK264.out⟩, ⟨by repeat (first | (with_reducible first | exact HB.out | apply below_alloc | apply pw_below_drewN | apply below_drew1 | refine below_set ?_ GE264.out) | exact HB.out)⟩⟩
            ·rw [if_neg c20] at H
             exact absurd H (by simp)
           ·rw [if_neg c19] at H
            exact absurd H (by simp)
         ·rw [if_neg c17] at H
          have c17b0 : (((rd_T41 l2 x8_2).f1) == 1) = false := beq_eq_false_iff_ne.mpr c17
          have c17b1 : (((rd_T41 l2 x8_2).f1) != 1) = true := bne_iff_ne.mpr c17
          (first | rw [c17b0] | (simp only [i64_w, i32_w]; rw [c17b0]) | skip)
          have H' := Aside0.mk H
          clear H
          have p267 : 0 ≤ (x8_2 : Int) := of_decide_eq_true (by first | (with_reducible assumption) | assumption)
          have q267 : x8_2 < (l2.length : Int) := of_decide_eq_true (by first | (with_reducible assumption) | assumption)
          obtain ⟨ad267, A267_0, c267_0, e267, hx267_0, hx267_1, hl267_0, hi267_0⟩ := at_T41 HR2.out x8_2 p267 q267
          obtain rfl : ad266 = ad267 := (by injection e267)
          replace hx267_0 := (HB.out.cell (World.block_lt_of_cell? w _ hx267_0)).trans hx267_0
          replace hx267_1 := (HB.out.cell (World.block_lt_of_cell? w _ hx267_1)).trans hx267_1
          have HR267_0 := Aside0.mk hi267_0
          have HC267_0 := Aside0.mk hl267_0
          clear hi267_0 hl267_0
          replace p267 := eq_true p267
          replace q267 := eq_true q267
          go_wp2
          go_meet
          case rel => exact ⟨_, (true), (by first | rfl | (simp; done) | (simp [*]; done)), H', ⟨by have := HJ3.out; have := HK2.out; first | omega | exact Nat.le_refl _⟩, ⟨by (with_reducible repeat (first | apply Kd.S_alloc | apply Kd.S_drewN | apply Kd.S_drew)); exact HO_7.out⟩, ⟨by (with_reducible repeat (first | refine blk_drewN ?_ _ | refine blk_drew ?_ | refine blk_alloc ?_ _)); exact BK264.out⟩, ⟨by repeat (first | (with_reducible first | exact HB.out | apply below_alloc | apply pw_below_drewN | apply below_drew1 | refine below_set ?_ GE264.out) | exact HB.out)⟩⟩
        case rest =>
         clear HC16
         try clear c1
         try clear c2
         try clear p2
         try clear q2
         try clear hx2
         try clear c6
         try clear c6b0
         try clear c8
         try clear c8b0
         try clear c13
         try clear c14
         try clear c14b0
         try clear c15
         try clear c15b0
         try clear c16
         try clear c17
         try clear c17b0
         try clear c17b1
         try clear c18
         try clear c18b0
         try clear c19
         try clear c19b0
         try clear c20
         try clear c20b0
         try clear hcz11_0
         try clear hcz11_1
         try clear hcz11_2
         try clear hcz7_0
         try clear hcz7_1
         try clear hcz7_2
         try clear hcz9_0
         try clear hcz9_1
         try clear hcz9_2
         try clear hfz11_0
         try clear hfz11_1
         try clear hfz11_2
         try clear hfz7_0
         try clear hfz7_1
         try clear hfz7_2
         try clear hfz9_0
         try clear hfz9_1
         try clear hfz9_2
         try clear hx266_0
         try clear hx266_1
         try clear hx267_0
         try clear hx267_1
         try clear hx268_0
         try clear hx268_1
         try clear hx268_2
         try clear p2
         try clear p266
         try clear p267
         try clear p268
         try clear q266
         try clear q267
         try clear q268
         obtain ⟨kq, x53_15, rfl, HA, HJ15, HO_7, BK264, HB⟩ := hcut
         cases kq with
         | zero => exact absurd HA.out (by simp [erasureref35_Publish.j2])
         | succ kj15 =>
          have H := HA.out
          clear HA
          simp only [erasureref35_Publish.j2] at H
          by_cases c21 : x53_15 = true
          ·subst c21
           have H1 : (erasureref35_Publish.l0 kj15 a1 l2 x7_2 (wrap64 (x8_2 + 1)) a0_0 a0_1 a0_2) = some r := by rw [if_pos rfl] at H; exact H
           clear H
           have H := H1
           clear H1
           have H' := Aside0.mk H
           clear H
           go_wp2
           go_roundg kj15
           case measure => have := HJ3.out; have := HK2.out; have := HJ15.out; omega
           case rel => exact ⟨(x7_2), (wrap64 (x8_2 + 1)), (by first | rfl | (simp; done) | (simp [*]; done)), H', ⟨by have := HJ3.out; have := HK2.out; have := HJ15.out; omega⟩, ⟨by (with_reducible repeat (first | apply Kd.S_alloc | apply Kd.S_drewN | apply Kd.S_drew)); exact HO_7.out⟩, ⟨by (with_reducible repeat (first | refine blk_drewN ?_ _ | refine blk_drew ?_ | refine blk_alloc ?_ _)); exact BK264.out⟩, ⟨by repeat (first | (with_reducible first | exact HB.out | apply below_alloc | apply pw_below_drewN | apply below_drew1 | refine below_set ?_ GE264.out) | exact HB.out)⟩⟩
          ·replace c21 := Bool.eq_false_iff.mpr c21
           subst c21
           have H1 : (if 0 ≤ a1 then (if a1 < (((rd_T41 l2 x8_2).f0).length : Int) then (if ((rd_T38 ((rd_T41 l2 x8_2).f0) a1).f1) ≥ a0_2 then (if a1 ≤ (((rd_T41 l2 x8_2).f0).length : Int) then ((erasureref26_CleanRow.f kj15 (((rd_T41 l2 x8_2).f0).take (a1 : Int).toNat)).bind fun t274 => (if a0_2 = 0 then (none) else (if x7_2.length < 4398046511104 then (erasureref35_Publish.l0 kj15 a1 l2 (x7_2 ++ [(⟨t274, wrap64 (((rd_T38 ((rd_T41 l2 x8_2).f0) a1).f1) - (Int.tmod ((rd_T38 ((rd_T41 l2 x8_2).f0) a1).f1) a0_2))⟩ : S43)]) (wrap64 (x8_2 + 1)) a0_0 a0_1 a0_2) else (none)))) else (none)) else (erasureref35_Publish.l0 kj15 a1 l2 x7_2 (wrap64 (x8_2 + 1)) a0_0 a0_1 a0_2)) else (none)) else (none)) = some r := by rw [if_neg (show ¬ (false = true) by decide)] at H; exact H
           clear H
           have H := H1
           clear H1
           by_cases c22 : 0 ≤ a1
           ·rw [if_pos c22] at H
            have c22b0 : decide (0 ≤ a1) = true := decide_eq_true c22
            clear c22
            by_cases c23 : a1 < (((rd_T41 l2 x8_2).f0).length : Int)
            ·rw [if_pos c23] at H
             have c23b0 : decide (a1 < (((rd_T41 l2 x8_2).f0).length : Int)) = true := decide_eq_true c23
             clear c23
             by_cases c24 : ((rd_T38 ((rd_T41 l2 x8_2).f0) a1).f1) ≥ a0_2
             ·rw [if_pos c24] at H
              have c24b0 : decide (a0_2 ≤ ((rd_T38 ((rd_T41 l2 x8_2).f0) a1).f1)) = true := decide_eq_true c24
              clear c24
              have c25b0 := eq_true (of_decide_eq_true (by first | (with_reducible assumption) | assumption) : 0 ≤ a1)
              by_cases c26 : a1 ≤ (((rd_T41 l2 x8_2).f0).length : Int)
              ·rw [if_pos c26] at H
               have c26b0 := eq_true c26
               have c26b1 : decide (a1 ≤ (((rd_T41 l2 x8_2).f0).length : Int)) = true := decide_eq_true c26
               clear c26
               obtain ⟨y270, hy270⟩ : ∃ y_ : List (S38), y_ = (((rd_T41 l2 x8_2).f0).take (a1 : Int).toNat) := ⟨_, rfl⟩
               replace H : ((erasureref26_CleanRow.f kj15 y270).bind fun t274 => (if a0_2 = 0 then (none) else (if x7_2.length < 4398046511104 then (erasureref35_Publish.l0 kj15 a1 l2 (x7_2 ++ [(⟨t274, wrap64 (((rd_T38 ((rd_T41 l2 x8_2).f0) a1).f1) - (Int.tmod ((rd_T38 ((rd_T41 l2 x8_2).f0) a1).f1) a0_2))⟩ : S43)]) (wrap64 (x8_2 + 1)) a0_0 a0_1 a0_2) else (none)))) = some r := by first | (rw [hy270]; with_reducible exact H) | (have H2_ := (Option.bind_some _ _).symm.trans H; rw [hy270]; with_reducible exact H2_) | (have H2_ := (Option.bind_some _ _).symm.trans H; with_reducible exact H2_) | with_reducible exact H | (rw [hy270]; exact H) | exact H
               have Ny270 := Aside0.mk hy270
               clear hy270
               replace H := Option.bind_eq_some_iff.mp H
               obtain ⟨t274, A270, H⟩ := H
               replace H : (if a0_2 = 0 then (none) else (if x7_2.length < 4398046511104 then (erasureref35_Publish.l0 kj15 a1 l2 (x7_2 ++ [(⟨t274, wrap64 (((rd_T38 ((rd_T41 l2 x8_2).f0) a1).f1) - (Int.tmod ((rd_T38 ((rd_T41 l2 x8_2).f0) a1).f1) a0_2))⟩ : S43)]) (wrap64 (x8_2 + 1)) a0_0 a0_1 a0_2) else (none))) = some r := H
               have A27 := Aside0.mk A270
               clear A270
               by_cases c28 : a0_2 = 0
               ·rw [if_pos c28] at H
                exact absurd H (by simp)
               ·rw [if_neg c28] at H
                have c28b0 : (a0_2 == 0) = false := beq_eq_false_iff_ne.mpr c28
                have c28b1 : (a0_2 != 0) = true := bne_iff_ne.mpr c28
                by_cases c29 : x7_2.length < 4398046511104
                ·rw [if_pos c29] at H
                 have LMc29 := Aside0.mk c29
                 clear c29
                 obtain ⟨y277, hy277⟩ : ∃ y_ : List (S43), y_ = (x7_2 ++ [(⟨t274, wrap64 (((rd_T38 ((rd_T41 l2 x8_2).f0) a1).f1) - (Int.tmod ((rd_T38 ((rd_T41 l2 x8_2).f0) a1).f1) a0_2))⟩ : S43)]) := ⟨_, rfl⟩
                 replace H : (erasureref35_Publish.l0 kj15 a1 l2 y277 (wrap64 (x8_2 + 1)) a0_0 a0_1 a0_2) = some r := by first | (rw [hy277]; with_reducible exact H) | (have H2_ := (Option.bind_some _ _).symm.trans H; rw [hy277]; with_reducible exact H2_) | (have H2_ := (Option.bind_some _ _).symm.trans H; with_reducible exact H2_) | with_reducible exact H | (rw [hy277]; exact H) | exact H
                 have Ny277 := Aside0.mk hy277
                 clear hy277
                 have H' := Aside0.mk H
                 clear H
                 have p269 : 0 ≤ (a1 : Int) := of_decide_eq_true (by first | (with_reducible assumption) | assumption)
                 have q269 : a1 < (((rd_T41 l2 x8_2).f0).length : Int) := of_decide_eq_true (by first | (with_reducible assumption) | assumption)
                 obtain ⟨ad269, e269, hx269_0, hx269_1, hx269_2⟩ := at_T38 HR266_0.out a1 p269 q269
                 cases e269
                 replace hx269_0 := (HB.out.cell (World.block_lt_of_cell? w _ hx269_0)).trans hx269_0
                 replace hx269_1 := (HB.out.cell (World.block_lt_of_cell? w _ hx269_1)).trans hx269_1
                 replace hx269_2 := (HB.out.cell (World.block_lt_of_cell? w _ hx269_2)).trans hx269_2
                 replace p269 := eq_true p269
                 replace q269 := eq_true q269
                 have hcz30_0 : wc.cell? ⟨gb264, 0, none⟩ = some (.string a0_0) := (blk_cell BK264.out 0).trans rfl
                 have hcz30_1 : wc.cell? ⟨gb264, 1, none⟩ = some (.string a0_1) := (blk_cell BK264.out 1).trans rfl
                 have hcz30_2 : wc.cell? ⟨gb264, 2, none⟩ = some (.int .i64 a0_2) := (blk_cell BK264.out 2).trans rfl
                 have hfz30_0 := blk_frozen BK264.out 0
                 have hfz30_1 := blk_frozen BK264.out 1
                 have hfz30_2 := blk_frozen BK264.out 2
                 try go_wp2
                 have n0_ := Aside0.mk (Kd.S_drew HO_7.out)
                 have n1_ := Aside0.mk (blk_drew BK264.out)
                 have n2_ := Aside0.mk (below_drew1 HB.out)
                 clear HO_7
                 clear BK264
                 clear HB
                 have HO_7 := n0_
                 have BK264 := n1_
                 have HB := n2_
                 clear n0_ n1_ n2_
                 have q32 : (a1 : Int) ≤ ((((rd_T41 l2 x8_2).f0).length : Int) : Int) := of_decide_eq_true (by first | (with_reducible assumption) | assumption)
                 obtain ⟨i032, hi032, _, hsz32, _⟩ := info_parts info38
                 have hroom32 : ((rd_T41 l2 x8_2).f0).length ≤ c266_0 := HC266_0.out
                 have hC32 : Kd.C k38 _ (some ad269) ((rd_T41 l2 x8_2).f0).length ((rd_T41 l2 x8_2).f0) := HR266_0.out
                 have hcut32 := cut_to (P := Try.prog) 39 38 .i64 Try.underlying39 hi032 (some ad269) ((rd_T41 l2 x8_2).f0).length c266_0 a1 (of_decide_eq_true (by first | (with_reducible assumption) | assumption)) q32 hroom32
                 have hr32 := Kd.C_take (m := (a1 : Int).toNat) hC32 (by omega)
                 have hy32 : y270.length = (a1 : Int).toNat := (by rw [Ny270.out, List.length_take]; omega)
                 rw [← Ny270.out] at hr32
                 rw [← hy32] at hcut32
                 have HR273 := Aside0.mk hr32
                 have HC273 := Aside0.mk (show y270.length ≤ c266_0 from by omega)
                 clear hr32 hC32 hroom32 hi032 hsz32
                 have KY32 := Aside0.mk hy32
                 clear hy32
                 replace q32 := eq_true q32
                 refine start_ (n := 15) (S := fun w' => w'.cell? ⟨gb264, 0, none⟩ = some (.string a0_0) ∧ w'.cell? ⟨gb264, 1, none⟩ = some (.string a0_1) ∧ w'.cell? ⟨gb264, 2, none⟩ = some (.int .i64 a0_2)) (ds := []) #[false, false, false, false, false, false, false, false, false, false, false, false, false, false, false] (by kernel_rfl) rfl rfl ⟨(blk_cell BK264.out 0).trans rfl, (blk_cell BK264.out 1).trans rfl, (blk_cell BK264.out 2).trans rfl⟩ (fun hHeld => ?_); refine with_tabW erasureref35_Publish.tab11 erasureref35_Publish.bits11 (fun HT_ HW_ => ?_)
                 generalize wc.drew = w31 at HO_7 BK264 HB HR273 hHeld ⊢
                 refine pu (i := 0) (N := some 63) (bl 15 1) (any_of HT_.out (by kernel_rfl)) ?_
                 refine pu (i := 1) (N := some 64) (bl 15 3) (any_of HT_.out (by kernel_rfl)) ?_
                 refine pu (i := 2) (N := some 65) (bl 15 7) (any_of HT_.out (by kernel_rfl)) ?_
                 refine pu (i := 3) (N := some 66) (bl 15 15) (any_of HT_.out (by kernel_rfl)) ?_
                 refine pu (i := 5) (N := some 68) (bl 15 47) (any_of HT_.out (by kernel_rfl)) ?_
                 refine pu (i := 6) (N := some 69) (bl 15 111) (any_of HT_.out (by kernel_rfl)) ?_
                 refine pu (i := 7) (N := some 70) (bl 15 239) (any_of HT_.out (by kernel_rfl)) ?_
                 refine ta (i := 8) (N := some 71) (bl 15 495) (take_ofW HT_.out HW_.out (by kernel_rfl)) hHeld ?_
                 refine pu (i := 9) (N := some 72) (bl 15 1007) (any_of HT_.out (by kernel_rfl)) ?_
                 refine pu (i := 10) (N := some 73) (bl 15 2031) (any_of HT_.out (by kernel_rfl)) ?_
                 refine one_ (i := 4) (N := some 67) (bl 15 2047) rfl rfl (one_of HT_.out (by kernel_rfl)) (by decide) (fun K hK => ?_)
                 refine goes_ Try.func19 (by kernel_rfl) rfl #[.slice (some ad269) y270.length c266_0] (by rfl) rfl rfl (by (try simp only [List.map_toArray, List.map_cons, List.map_nil]); first | done | rfl | (simp only [List.length_drop, List.length_take]; rfl)) ?_
                 with_reducible refine (erasureref26_CleanRow.calls kj15 _ _ y270 t274 _ ?side1 ?side2 A27.out).mono ?_
                 (case side1 => repeat (first | exact (Kd.C_below HR273.out HB.out) | (with_reducible refine Kd.C_alloc ?_ _) | (with_reducible refine Kd.C_drewN ?_ _) | (with_reducible refine Kd.C_drew ?_)))
                 (case side2 => exact HC273.out)
                 rintro e w33 ⟨v275, rfl, ho0, hb⟩
                 refine ⟨_, rfl, ?_⟩
                 have n0_ := Aside0.mk (Kd.S_elder' (by (with_reducible repeat (first | apply Kd.S_alloc | apply Kd.S_drewN | apply Kd.S_drew)); exact HO_7.out) (Kd.R_base ho0) hb)
                 have n1_ := Aside0.mk (Kd.R_lower ho0 (below_size (by repeat (first | (with_reducible first | exact HB.out | apply below_alloc | apply pw_below_drewN | apply below_drew1 | refine below_set ?_ GE264.out) | exact HB.out))))
                 have n2_ := Aside0.mk (blk_below (g := gb264) (o := .cells #[.string a0_0, .string a0_1, .int .i64 a0_2] 23 (0, 0)) (by (with_reducible repeat (first | refine blk_drewN ?_ _ | refine blk_drew ?_ | refine blk_alloc ?_ _)); exact BK264.out) hb)
                 have n3_ := Aside0.mk (below_step (by repeat (first | (with_reducible first | exact HB.out | apply below_alloc | apply pw_below_drewN | apply below_drew1 | refine below_set ?_ GE264.out) | exact HB.out)) hb)
                 clear HO_7
                 clear BK264
                 clear HB
                 have HO_7 := n0_
                 have HO276 := n1_
                 have BK264 := n2_
                 have HB := n3_
                 clear n0_ n1_ n2_ n3_
                 (try clear hb)
                 (try clear hb2)
                 (try clear hk)
                 (try clear hi)
                 (try clear ho0)
                 obtain ⟨Ao34, co34, eo34⟩ := Kd.R_slice HO276.out
                 (first | subst eo34 | (injection eo34 with f1_ f2_ f3_; have f4_ := f1_.symm; have f5_ := f3_.symm; clear f1_ f2_ f3_; subst f4_; subst f5_))
                 refine hK.out _ _ ⟨(blk_cell BK264.out 0).trans rfl, (blk_cell BK264.out 1).trans rfl, (blk_cell BK264.out 2).trans rfl⟩ (fun hHeld => ?_)
                 clear hK K
                 refine norm_ (a' := ?_) ?_ ?_
                 rotate_left
                 ·show Act.put _ (some 67) _ = _
                  simp only [Act.put, List.setIfInBounds_toArray, List.set_cons_zero, List.set_cons_succ, i64_w, i32_w]
                  rfl
                 refine pu (i := 11) (N := some 74) (bl 15 4095) (any_of HT_.out (by kernel_rfl)) ?_
                 refine one_ (i := 12) (N := some 75) (bl 15 8191) rfl rfl (one_of HT_.out (by kernel_rfl)) (by decide) (fun K hK => ?_)
                 refine value_ (w1 := ?_) (v := ?_) (by rfl) rfl ?_ ?_
                 rotate_left 2
                 ·go_simp
                  constructor
                  ·rfl
                  ·rfl
                 refine hK.out _ _ ⟨(blk_cell (blk_alloc BK264.out _) 0).trans rfl, (blk_cell (blk_alloc BK264.out _) 1).trans rfl, (blk_cell (blk_alloc BK264.out _) 2).trans rfl⟩ (fun hHeld => ?_)
                 clear hK K
                 refine norm_ (a' := ?_) ?_ ?_
                 rotate_left
                 ·show Act.put _ (some 75) _ = _
                  simp only [Act.put, List.setIfInBounds_toArray, List.set_cons_zero, List.set_cons_succ, i64_w, i32_w]
                  rfl
                 refine one_ (i := 13) (N := some 76) (bl 15 16383) rfl rfl (one_of HT_.out (by kernel_rfl)) (by decide) (fun K hK => ?_)
                 refine Kd.S_append_step k43 (w0 := w) w.heap.size (by rfl) (.tmp 63) (.tmp 75) 31 43 (.agg #[(.slice none 0 0), (.int .i64 0)]) 32 rfl Try.underlying31 info43 rfl (by decide) (by omega) u7 x7_2 (⟨t274, wrap64 (((rd_T38 ((rd_T41 l2 x8_2).f0) a1).f1) - (Int.tmod ((rd_T38 ((rd_T41 l2 x8_2).f0) a1).f1) a0_2))⟩ : S43) [.slice Ao34 t274.length co34, .int .i64 (wrap64 (((rd_T38 ((rd_T41 l2 x8_2).f0) a1).f1) - (Int.tmod ((rd_T38 ((rd_T41 l2 x8_2).f0) a1).f1) a0_2)))] (fun _ => True) (fun k_ => some k_ = (.slice Ao34 t274.length co34 : Value).ownBlock) rfl rfl ?aP (fun k_ hk_ => ((Kd.R_mono (ok' := fun k_ => ((fun _ => True)) k_ ∧ some k_ ≠ (u7 : Value).ownBlock) (Kd.R_apart' (HO276.out) (Kd.S_typed HO_7.out) (by decide)) (fun k_ hk => ⟨trivial, hk.2⟩))).1 k_ hk_.symm) ?aF ?aO ?aB ?aS ?aL ?_
                 (case aP => exact k43_mkM _ _ _ (⟨t274, wrap64 (((rd_T38 ((rd_T41 l2 x8_2).f0) a1).f1) - (Int.tmod ((rd_T38 ((rd_T41 l2 x8_2).f0) a1).f1) a0_2))⟩ : S43) (Kd.R_mono (Kd.R_tight rfl (Kd.R_mono (ok' := fun k_ => ((fun _ => True)) k_ ∧ some k_ ≠ (u7 : Value).ownBlock) (Kd.R_apart' (HO276.out) (Kd.S_typed HO_7.out) (by decide)) (fun k_ hk => ⟨trivial, hk.2⟩))) (fun _ h_ => h_)))
                 (case aB => exact (by repeat (first | (with_reducible first | exact HB.out | apply below_alloc | apply pw_below_drewN | apply below_drew1 | refine below_set ?_ GE264.out) | exact HB.out)))
                 (case aF => exact (fun _ _ => trivial))
                 (case aO => exact (by (with_reducible repeat (first | apply Kd.S_alloc | apply Kd.S_drewN | apply Kd.S_drew)); exact Kd.S_mono HO_7.out (fun k_ hk => ⟨trivial, fun e_ => hk.2 e_⟩)))
                 (case aS => exact (below_size (by repeat (first | (with_reducible first | exact HB.out | apply below_alloc | apply pw_below_drewN | apply below_drew1 | refine below_set ?_ GE264.out) | exact HB.out))))
                 (case aL => have := LMc29.out; omega)
                 intro v278 w35 ho hb hg hat
                 rw [← Ny277.out] at ho
                 have n0_ := Aside0.mk (blk_grown (g := gb264) (o := .cells #[.string a0_0, .string a0_1, .int .i64 a0_2] 23 (0, 0)) (by (with_reducible repeat (first | refine blk_drewN ?_ _ | refine blk_drew ?_ | refine blk_alloc ?_ _)); exact BK264.out) hg (Kd.S_ne HO_7.out BK264.out (by decide)))
                 have n1_ := Aside0.mk (hb)
                 have n2_ := Aside0.mk (ho)
                 clear BK264
                 clear HB
                 clear HO_7
                 clear HO276
                 have BK264 := n0_
                 have HB := n1_
                 have HO279 := n2_
                 clear n0_ n1_ n2_
                 clear ho hb hg hat
                 refine hK.out _ _ ⟨(blk_cell BK264.out 0).trans rfl, (blk_cell BK264.out 1).trans rfl, (blk_cell BK264.out 2).trans rfl⟩ (fun hHeld => ?_)
                 clear hK K
                 refine norm_ (a' := ?_) ?_ ?_
                 rotate_left
                 ·show Act.put _ (some 76) _ = _
                  simp only [Act.put, List.setIfInBounds_toArray, List.set_cons_zero, List.set_cons_succ, i64_w, i32_w]
                  rfl
                 refine pu (i := 14) (N := some 7) (bl 15 32767) (any_of HT_.out (by kernel_rfl)) ?_
                 refine done_ (done_of HT_.out (by kernel_rfl)) ?_
                 try go_wp2
                 go_roundg kj15
                 case measure => have := HJ3.out; have := HK2.out; have := HJ15.out; omega
                 case rel => exact ⟨(y277), (wrap64 (x8_2 + 1)), (by first | rfl | (simp; done) | (simp [*]; done)), H', ⟨by have := HJ3.out; have := HK2.out; have := HJ15.out; omega⟩, ⟨by (with_reducible repeat (first | apply Kd.S_alloc | apply Kd.S_drewN | apply Kd.S_drew)); exact HO279.out⟩, ⟨by (with_reducible repeat (first | refine blk_drewN ?_ _ | refine blk_drew ?_ | refine blk_alloc ?_ _)); exact BK264.out⟩, ⟨by repeat (first | (with_reducible first | exact HB.out | apply below_alloc | apply pw_below_drewN | apply below_drew1 | refine below_set ?_ GE264.out) | exact HB.out)⟩⟩
                ·rw [if_neg c29] at H
                 exact absurd H (by simp)
              ·rw [if_neg c26] at H
               exact absurd H (by simp)
             ·rw [if_neg c24] at H
              have c24b0 : decide (a0_2 ≤ ((rd_T38 ((rd_T41 l2 x8_2).f0) a1).f1)) = false := decide_eq_false c24
              clear c24
              have H' := Aside0.mk H
              clear H
              have p269 : 0 ≤ (a1 : Int) := of_decide_eq_true (by first | (with_reducible assumption) | assumption)
              have q269 : a1 < (((rd_T41 l2 x8_2).f0).length : Int) := of_decide_eq_true (by first | (with_reducible assumption) | assumption)
              obtain ⟨ad269, e269, hx269_0, hx269_1, hx269_2⟩ := at_T38 HR266_0.out a1 p269 q269
              cases e269
              replace hx269_0 := (HB.out.cell (World.block_lt_of_cell? w _ hx269_0)).trans hx269_0
              replace hx269_1 := (HB.out.cell (World.block_lt_of_cell? w _ hx269_1)).trans hx269_1
              replace hx269_2 := (HB.out.cell (World.block_lt_of_cell? w _ hx269_2)).trans hx269_2
              replace p269 := eq_true p269
              replace q269 := eq_true q269
              have hcz36_0 : wc.cell? ⟨gb264, 0, none⟩ = some (.string a0_0) := (blk_cell BK264.out 0).trans rfl
              have hcz36_1 : wc.cell? ⟨gb264, 1, none⟩ = some (.string a0_1) := (blk_cell BK264.out 1).trans rfl
              have hcz36_2 : wc.cell? ⟨gb264, 2, none⟩ = some (.int .i64 a0_2) := (blk_cell BK264.out 2).trans rfl
              have hfz36_0 := blk_frozen BK264.out 0
              have hfz36_1 := blk_frozen BK264.out 1
              have hfz36_2 := blk_frozen BK264.out 2
              go_wp2
              go_roundg kj15
              case measure => have := HJ3.out; have := HK2.out; have := HJ15.out; omega
              case rel => exact ⟨(x7_2), (wrap64 (x8_2 + 1)), (by first | rfl | (simp; done) | (simp [*]; done)), H', ⟨by have := HJ3.out; have := HK2.out; have := HJ15.out; omega⟩, ⟨by (with_reducible repeat (first | apply Kd.S_alloc | apply Kd.S_drewN | apply Kd.S_drew)); exact HO_7.out⟩, ⟨by (with_reducible repeat (first | refine blk_drewN ?_ _ | refine blk_drew ?_ | refine blk_alloc ?_ _)); exact BK264.out⟩, ⟨by repeat (first | (with_reducible first | exact HB.out | apply below_alloc | apply pw_below_drewN | apply below_drew1 | refine below_set ?_ GE264.out) | exact HB.out)⟩⟩
            ·rw [if_neg c23] at H
             exact absurd H (by simp)
           ·rw [if_neg c22] at H
            exact absurd H (by simp)
       ·rw [if_neg c15] at H
        exact absurd H (by simp)
      ·rw [if_neg c14] at H
       have c14b0 : decide (x8_2 < (l2.length : Int)) = false := decide_eq_false c14
       clear c14
       obtain rfl := Option.some.inj H
       go_wp2
       go_ret
       exact ⟨_, by first | rfl | (simp [errW_none, errW_some] <;> rfl) | (simp [*, errW_none, errW_some] <;> rfl), by (with_reducible repeat (first | apply Kd.S_alloc | apply Kd.S_drewN | apply Kd.S_drew)); exact HO_7.out, by repeat (first | (with_reducible first | exact HB.out | apply below_alloc | apply pw_below_drewN | apply below_drew1 | refine below_set ?_ GE264.out) | exact HB.out)⟩
end Go.Proofs.Ytjhnpaenhdbhpaa.P
