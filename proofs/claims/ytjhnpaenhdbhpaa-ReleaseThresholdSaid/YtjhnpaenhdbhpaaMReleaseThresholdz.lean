/- erasurelaw35.ReleaseThreshold of the Go program returns true for every input, and leaves its arguments as they were: no condition on the input. -/
import Derived.Test.YtjhnpaenhdbhpaaRows
import Derived.WalkKit
import Derived.ProofKit
import Derived.OpenShut
import Derived.ShutString
import Derived.ChangeOld
import Derived.Below
import Derived.SizedLaws
import Derived.WideShapes
import Derived.Test.YtjhnpaenhdbhpaaMReleaseThresholda
import Derived.Test.YtjhnpaenhdbhpaaMReleaseThresholdb
import Derived.Test.YtjhnpaenhdbhpaaMReleaseThresholdc
import Derived.Test.YtjhnpaenhdbhpaaMReleaseThresholdd
import Derived.Test.YtjhnpaenhdbhpaaMReleaseThresholde
import Derived.Test.YtjhnpaenhdbhpaaMReleaseThresholdf
import Derived.Test.YtjhnpaenhdbhpaaMReleaseThresholdg
namespace Go.Proofs.Ytjhnpaenhdbhpaa.releaseThreshold
open Go.ChangeShapes Go.WideShapes Go.ChangeAt Go.RowKit Go.Proofs.Ytjhnpaenhdbhpaa.P Go.Proofs.Ytjhnpaenhdbhpaa.Q Go.Proofs.YtjhnpaenhdbhpaaW.PrintWords
open Go.ChangeMaps (open_string shut_string)
set_option linter.unusedVariables false
theorem own : ownKnob Try.prog.godebug = none := by kernel_rfl
theorem laidOut : laidOutB Try.prog = true := by kernel_rfl
set_option maxRecDepth 100000 in
theorem lifted (os : Os) (started : os.Started) (H : Type) (enc : TypeId × Value → H) :
    ReturnsInHanded {} Try.checked os 4 .any (Rows.releaseThresholdSpec.pre6 enc Try.prog Try.f4 Rows.releaseThresholdRow.domain false) (Rows.releaseThresholdSpec.post enc Try.prog Try.f4 false true false false) := by
  refine returnsInHanded_of_change_sized (C := Try.checked) own started (by kernel_rfl) Try.func4
    (ChangeSpec.witness6 (enc := enc) (C := Try.checked) false ⟨#[], #[.int .i64 0, .slice none 0 0], []⟩ 8 (by kernel_rfl) (by kernel_rfl) (by kernel_rfl) (by kernel_rfl)) ?_
  intro W base args ds gs before hval0 hW hcnd hsz0 _
  have hsz : (DataW.weightsEach Try.prog (Try.f4.params.toList ++ Rows.releaseThresholdSpec.plain.varTypes Try.prog) (ds ++ gs)).all (· ≤ reachBytes) = true := hsz0
  have hval : ∀ (j : Nat) t v, Try.f4.params[j]? = some t → args[j]? = some v → Value.okWide Try.prog W .any base t v := hval0
  have hW' := hW
  obtain ⟨p, q, hA0, hV, rfl, hfz, hnd⟩ := hW
  have hA : DataW.TrodAll enc Try.prog W 0 (fun _ => true) true Try.f4.params.toList args.toList ds p := hA0
  rw [Try.params4] at hA hval hsz
  obtain ⟨v0, vs0, d0, ds0, p0, q0, hargs, rfl, rfl, h0, r0⟩ := trodAll_cons hA
  obtain ⟨v1, vs1, d1, ds1, p1, q1, rfl, rfl, rfl, h1, r1⟩ := trodAll_cons r0
  obtain ⟨rfl, rfl, rfl⟩ := trodAll_nil r1
  obtain rfl : args = #[v0, v1] := by cases args; simp_all
  obtain ⟨rfl, rfl⟩ := trodVars_none hV
  obtain ⟨x0, rfl, rfl, rfl, w0⟩ := open_int Try.underlying3 (hval 0 3 v0 rfl rfl) h0
  have k1 := h1
  have lt1 : ∀ x ∈ p1, x.block < W.heap.size := by obtain ⟨m, hm⟩ := k1; exact DataW.trod_lt m _ _ _ hm
  obtain ⟨q1a, q1n, q1c, rfl⟩ := okWide_slice Try.underlying34 (hval 1 34 v1 rfl rfl)
  obtain ⟨x1, hK1, b1⟩ : ∃ x : List Int, (Kd.slice 3 (Kd.int .i64)).K W x [.slice q1a q1n q1c] ∧ (x.length ≤ maxLen ∧ ∀ e0 ∈ x, (Lit.int .i64 e0).wf = true) := by
    obtain ⟨fuel, hf⟩ := h1
    exact (opens_slice Try.underlying34 (opens_int Try.underlying3) (by kernel_rfl)) enc W fuel _ _ hf
  obtain ⟨A1, c1, e1, l1, g1⟩ := hK1
  obtain ⟨rfl, rfl, rfl⟩ : q1a = A1 ∧ q1n = x1.length ∧ q1c = c1 := by simpa using e1
  clear hA0 hval0 hsz0 hsz
  obtain ⟨k, hpure⟩ := Q.ReleaseThreshold_std x0 x1 w0 b1
  refine (P.erasurelaw35_ReleaseThreshold.calls (k := k) (a0 := x0) (A1 := q1a) (c1 := q1c) (l1 := x1) (hr1 := g1) (hc1 := l1) (r := true) (w := W) (h := hpure)).mono fun e W' ⟨he, bel0⟩ => ?_
  have bel : Below W.heap.size W W' := bel0
  subst he
  exact ⟨_, rfl, _, _, _, [], _, [], hW', trodAll_mk1 (shut_bool Try.underlying4 _), (trodAll_cons_mk (shut_int Try.underlying3 w0) (trodAll_cons_mk (Below.trod laidOut (by kernel_rfl) (of_decide_eq_true (by kernel_rfl)) k1 bel lt1) trodAll_mk0)), rfl, bel.frame _, fun h => by cases h⟩
theorem over : Rows.releaseThresholdRow.holds Try.pinned (OpenSpec.ofChange Rows.releaseThresholdSpec) :=
  OpenClaim.holds_of_wide 4 Try.f4 rfl rfl rfl rfl rfl rfl rfl ⟨rfl, rfl, rfl, rfl, rfl⟩ rfl rfl rfl rfl rfl (by kernel_rfl) Try.func4 (by kernel_rfl)
    (of_decide_eq_true (by kernel_rfl)) (by unfold Func.isWrapper; first | (rw [if_pos (by decide +kernel)]; kernel_rfl) | (rw [if_neg (by decide +kernel)]; exact ⟨rfl, rfl⟩))
    (fun os started H enc _ => lifted os started H enc)
theorem proved : Rows.ReleaseThresholdSaid := over
end Go.Proofs.Ytjhnpaenhdbhpaa.releaseThreshold
namespace Go.Proofs.Ytjhnpaenhdbhpaa
theorem releaseThreshold_holds : Rows.ReleaseThresholdSaid := releaseThreshold.proved
end Go.Proofs.Ytjhnpaenhdbhpaa
