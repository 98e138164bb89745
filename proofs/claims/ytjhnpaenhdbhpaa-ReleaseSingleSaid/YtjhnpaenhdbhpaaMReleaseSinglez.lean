/- erasurelaw35.ReleaseSingle of the Go program returns true for every input, and leaves its arguments as they were: no condition on the input. -/
import Derived.Test.YtjhnpaenhdbhpaaRows
import Derived.WalkKit
import Derived.ProofKit
import Derived.OpenShut
import Derived.ShutString
import Derived.ChangeOld
import Derived.Below
import Derived.SizedLaws
import Derived.WideShapes
import Derived.Test.YtjhnpaenhdbhpaaMReleaseSinglea
import Derived.Test.YtjhnpaenhdbhpaaMReleaseSingleb
import Derived.Test.YtjhnpaenhdbhpaaMReleaseSinglec
import Derived.Test.YtjhnpaenhdbhpaaMReleaseSingled
namespace Go.Proofs.Ytjhnpaenhdbhpaa.releaseSingle
open Go.ChangeShapes Go.WideShapes Go.ChangeAt Go.RowKit Go.Proofs.YtjhnpaenhdbhpaaV
open Go.ChangeMaps (open_string shut_string)
set_option linter.unusedVariables false
theorem own : ownKnob Try.prog.godebug = none := by kernel_rfl
set_option maxRecDepth 100000
theorem laidOut : laidOutB Try.prog = true := by kernel_rfl
set_option maxRecDepth 100000 in
theorem lifted (os : Os) (started : os.Started) (H : Type) (enc : TypeId × Value → H) :
    ReturnsInHanded {} Try.checked os 8 .any (Rows.releaseSingleSpec.pre6 enc Try.prog Try.f8 Rows.releaseSingleRow.domain false) (Rows.releaseSingleSpec.post enc Try.prog Try.f8 false true false false) := by
  refine returnsInHanded_of_change_sized (C := Try.checked) own started (by kernel_rfl) Try.func8
    (ChangeSpec.witness6 (enc := enc) (C := Try.checked) false ⟨#[], #[.int .i64 0, .slice none 0 0, .int .i64 0], []⟩ 8 (by kernel_rfl) (by kernel_rfl) (by kernel_rfl) (by kernel_rfl)) ?_
  intro W base args ds gs before hval0 hW hcnd hsz0 _
  have hval : ∀ (j : Nat) t v, Try.f8.params[j]? = some t → args[j]? = some v → Value.okWide Try.prog W .any base t v := hval0
  have hW' := hW
  obtain ⟨p, q, hA0, hV, rfl, hfz, hnd⟩ := hW
  have hA : DataW.TrodAll enc Try.prog W 0 (fun _ => true) true Try.f8.params.toList args.toList ds p := hA0
  rw [Try.params8] at hA hval
  obtain ⟨v0, vs0, d0, ds0, p0, q0, hargs, rfl, rfl, h0, r0⟩ := trodAll_cons hA
  obtain ⟨v1, vs1, d1, ds1, p1, q1, rfl, rfl, rfl, h1, r1⟩ := trodAll_cons r0
  obtain ⟨v2, vs2, d2, ds2, p2, q2, rfl, rfl, rfl, h2, r2⟩ := trodAll_cons r1
  obtain ⟨rfl, rfl, rfl⟩ := trodAll_nil r2
  obtain rfl : args = #[v0, v1, v2] := by cases args; simp_all
  obtain ⟨rfl, rfl⟩ := trodVars_none hV
  obtain ⟨x0, rfl, rfl, rfl, w0⟩ := open_int Try.underlying3 (hval 0 3 v0 rfl rfl) h0
  have k1 := h1
  have lt1 : ∀ x ∈ p1, x.block < W.heap.size := by obtain ⟨m, hm⟩ := k1; exact DataW.trod_lt m _ _ _ hm
  obtain ⟨q1a, q1n, q1c, rfl⟩ := okWide_slice Try.underlying34 (hval 1 34 v1 rfl rfl)
  obtain ⟨x1, hK1, b1⟩ : ∃ x : (List Int), RepL (oldF W) W ((cL 1 (cI .i64) (0 : Int)) x) [.slice q1a q1n q1c] ∧ (x.length ≤ maxLen ∧ ∀ e0 ∈ x, (Lit.int .i64 e0).wf = true) := by
    obtain ⟨fuel, hf⟩ := h1
    exact (op1_slice (sz := 1) (B := fun y : Int => (Lit.int .i64 y).wf = true) (0 : Int) Try.underlying34 (op1_int Try.underlying3) (by kernel_rfl) (fun _ => rfl) (by decide)).out enc W fuel _ _ hf
  obtain ⟨x2, rfl, rfl, rfl, w2⟩ := open_int Try.underlying3 (hval 2 3 v2 rfl rfl) h2
  clear hA0 hval0 hsz0
  obtain ⟨k, hpure⟩ := ReleaseSingle_std x0 x1 x2 w0 b1 w2
  refine (Spec.law (erasurelaw35_ReleaseSingle.spec hpure) (W := W) (by simp only [RelVs, RelV]; exact ⟨_, _, rfl, rfl, ⟨_, _, rfl, hK1.1, ⟨_, _, rfl, rfl, rfl⟩⟩⟩)).mono fun e W' ⟨he, bel⟩ => ?_
  subst he
  exact ⟨_, rfl, _, _, _, [], _, [], hW', trodAll_mk1 (shut_bool Try.underlying4 _), (trodAll_cons_mk (shut_int Try.underlying3 w0) (trodAll_cons_mk (Below.trod laidOut (by kernel_rfl) (of_decide_eq_true (by kernel_rfl)) k1 bel lt1) (trodAll_cons_mk (shut_int Try.underlying3 w2) trodAll_mk0))), rfl, bel.frame _, fun h => by cases h⟩
theorem over : Rows.releaseSingleRow.holds Try.pinned (OpenSpec.ofChange Rows.releaseSingleSpec) :=
  OpenClaim.holds_of_wide 8 Try.f8 rfl rfl rfl rfl rfl rfl rfl ⟨rfl, rfl, rfl, rfl, rfl⟩ rfl rfl rfl rfl rfl (by kernel_rfl) Try.func8 (by kernel_rfl)
    (of_decide_eq_true (by kernel_rfl)) (by unfold Func.isWrapper; first | (rw [if_pos (by decide +kernel)]; kernel_rfl) | (rw [if_neg (by decide +kernel)]; exact ⟨rfl, rfl⟩))
    (fun os started H enc _ => lifted os started H enc)
theorem proved : Rows.ReleaseSingleSaid := over
end Go.Proofs.Ytjhnpaenhdbhpaa.releaseSingle
namespace Go.Proofs.Ytjhnpaenhdbhpaa
theorem releaseSingle_holds : Rows.ReleaseSingleSaid := releaseSingle.proved
end Go.Proofs.Ytjhnpaenhdbhpaa
