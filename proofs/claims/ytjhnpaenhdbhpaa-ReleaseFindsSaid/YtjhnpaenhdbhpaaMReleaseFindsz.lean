/- erasurelaw35.ReleaseFinds of the Go program returns true for every input, and leaves its arguments as they were: no condition on the input. -/
import Derived.Test.YtjhnpaenhdbhpaaRows
import Derived.WalkKit
import Derived.ProofKit
import Derived.OpenShut
import Derived.ShutString
import Derived.ChangeOld
import Derived.Below
import Derived.SizedLaws
import Derived.WideShapes
import Derived.Test.YtjhnpaenhdbhpaaMReleaseFindsa
import Derived.Test.YtjhnpaenhdbhpaaMReleaseFindsb
import Derived.Test.YtjhnpaenhdbhpaaMReleaseFindsc
import Derived.Test.YtjhnpaenhdbhpaaMReleaseFindsd
namespace Go.Proofs.Ytjhnpaenhdbhpaa.releaseFinds
open Go.ChangeShapes Go.WideShapes Go.ChangeAt Go.RowKit Go.Proofs.YtjhnpaenhdbhpaaV
open Go.ChangeMaps (open_string shut_string)
set_option linter.unusedVariables false
theorem own : ownKnob Try.prog.godebug = none := by kernel_rfl
set_option maxRecDepth 100000
theorem laidOut : laidOutB Try.prog = true := by kernel_rfl
theorem op1_38 : Op1 Try.prog 38 cValue (fun x => ((Lit.int .i64 x.f0).wf = true ∧ ((Lit.int .i64 x.f1).wf = true ∧ x.f2.size ≤ maxLen))) := op1_struct (B := fun y : Int × Int × ByteArray => ((Lit.int .i64 y.1).wf = true ∧ ((Lit.int .i64 y.2.1).wf = true ∧ y.2.2.size ≤ maxLen))) cValue (fun x => ((Lit.int .i64 x.f0).wf = true ∧ ((Lit.int .i64 x.f1).wf = true ∧ x.f2.size ≤ maxLen))) (fun p => ⟨p.1, p.2.1, p.2.2⟩) (fun _ => rfl) (fun _ h => h) Try.underlying38 (by kernel_rfl) (opFs_cons (off := 0) (sa := 1) (a := (cI .i64)) (Ba := fun y : Int => (Lit.int .i64 y).wf = true) (Bb := fun y : Int × ByteArray => ((Lit.int .i64 y.1).wf = true ∧ y.2.size ≤ maxLen)) rfl (by kernel_rfl) (op1_int Try.underlying3) (opFs_cons (off := 1) (sa := 1) (a := (cI .i64)) (Ba := fun y : Int => (Lit.int .i64 y).wf = true) (Bb := fun y : ByteArray => y.size ≤ maxLen) rfl (by kernel_rfl) (op1_int Try.underlying2) (opFs_one (off := 2) (sz := 1) (c := cS) rfl (by kernel_rfl) (op1_string Try.underlying9))))
theorem op1_43 : Op1 Try.prog 43 cPublished (fun x => ((x.f0.length ≤ maxLen ∧ ∀ e0 ∈ x.f0, ((Lit.int .i64 e0.f0).wf = true ∧ ((Lit.int .i64 e0.f1).wf = true ∧ e0.f2.size ≤ maxLen))) ∧ (Lit.int .i64 x.f1).wf = true)) := op1_struct (B := fun y : (List TValue) × Int => ((y.1.length ≤ maxLen ∧ ∀ e0 ∈ y.1, ((Lit.int .i64 e0.f0).wf = true ∧ ((Lit.int .i64 e0.f1).wf = true ∧ e0.f2.size ≤ maxLen))) ∧ (Lit.int .i64 y.2).wf = true)) cPublished (fun x => ((x.f0.length ≤ maxLen ∧ ∀ e0 ∈ x.f0, ((Lit.int .i64 e0.f0).wf = true ∧ ((Lit.int .i64 e0.f1).wf = true ∧ e0.f2.size ≤ maxLen))) ∧ (Lit.int .i64 x.f1).wf = true)) (fun p => ⟨p.1, p.2⟩) (fun _ => rfl) (fun _ h => h) Try.underlying43 (by kernel_rfl) (opFs_cons (off := 0) (sa := 1) (a := (cL 3 cValue dValue)) (Ba := fun y : (List TValue) => (y.length ≤ maxLen ∧ ∀ e0 ∈ y, ((Lit.int .i64 e0.f0).wf = true ∧ ((Lit.int .i64 e0.f1).wf = true ∧ e0.f2.size ≤ maxLen)))) (Bb := fun y : Int => (Lit.int .i64 y).wf = true) rfl (by kernel_rfl) (op1_slice (sz := 3) (B := fun y : TValue => ((Lit.int .i64 y.f0).wf = true ∧ ((Lit.int .i64 y.f1).wf = true ∧ y.f2.size ≤ maxLen))) dValue Try.underlying39 op1_38 (by kernel_rfl) (fun _ => rfl) (by decide)) (opFs_one (off := 1) (sz := 1) (c := (cI .i64)) rfl (by kernel_rfl) (op1_int Try.underlying2)))
set_option maxRecDepth 100000 in
theorem lifted (os : Os) (started : os.Started) (H : Type) (enc : TypeId × Value → H) :
    ReturnsInHanded {} Try.checked os 9 .any (Rows.releaseFindsSpec.pre6 enc Try.prog Try.f9 Rows.releaseFindsRow.domain false) (Rows.releaseFindsSpec.post enc Try.prog Try.f9 false true false false) := by
  refine returnsInHanded_of_change_sized (C := Try.checked) own started (by kernel_rfl) Try.func9
    (ChangeSpec.witness6 (enc := enc) (C := Try.checked) false ⟨#[], #[.slice none 0 0, .slice none 0 0, .slice none 0 0], []⟩ 8 (by kernel_rfl) (by kernel_rfl) (by kernel_rfl) (by kernel_rfl)) ?_
  intro W base args ds gs before hval0 hW hcnd hsz0 _
  have hval : ∀ (j : Nat) t v, Try.f9.params[j]? = some t → args[j]? = some v → Value.okWide Try.prog W .any base t v := hval0
  have hW' := hW
  obtain ⟨p, q, hA0, hV, rfl, hfz, hnd⟩ := hW
  have hA : DataW.TrodAll enc Try.prog W 0 (fun _ => true) true Try.f9.params.toList args.toList ds p := hA0
  rw [Try.params9] at hA hval
  obtain ⟨v0, vs0, d0, ds0, p0, q0, hargs, rfl, rfl, h0, r0⟩ := trodAll_cons hA
  obtain ⟨v1, vs1, d1, ds1, p1, q1, rfl, rfl, rfl, h1, r1⟩ := trodAll_cons r0
  obtain ⟨v2, vs2, d2, ds2, p2, q2, rfl, rfl, rfl, h2, r2⟩ := trodAll_cons r1
  obtain ⟨rfl, rfl, rfl⟩ := trodAll_nil r2
  obtain rfl : args = #[v0, v1, v2] := by cases args; simp_all
  obtain ⟨rfl, rfl⟩ := trodVars_none hV
  have k0 := h0
  have lt0 : ∀ x ∈ p0, x.block < W.heap.size := by obtain ⟨m, hm⟩ := k0; exact DataW.trod_lt m _ _ _ hm
  obtain ⟨q0a, q0n, q0c, rfl⟩ := okWide_slice Try.underlying31 (hval 0 31 v0 rfl rfl)
  obtain ⟨x0, hK0, b0⟩ : ∃ x : (List TPublished), RepL (oldF W) W ((cL 2 cPublished dPublished) x) [.slice q0a q0n q0c] ∧ (x.length ≤ maxLen ∧ ∀ e0 ∈ x, ((e0.f0.length ≤ maxLen ∧ ∀ e1 ∈ e0.f0, ((Lit.int .i64 e1.f0).wf = true ∧ ((Lit.int .i64 e1.f1).wf = true ∧ e1.f2.size ≤ maxLen))) ∧ (Lit.int .i64 e0.f1).wf = true)) := by
    obtain ⟨fuel, hf⟩ := h0
    exact (op1_slice (sz := 2) (B := fun y : TPublished => ((y.f0.length ≤ maxLen ∧ ∀ e0 ∈ y.f0, ((Lit.int .i64 e0.f0).wf = true ∧ ((Lit.int .i64 e0.f1).wf = true ∧ e0.f2.size ≤ maxLen))) ∧ (Lit.int .i64 y.f1).wf = true)) dPublished Try.underlying31 op1_43 (by kernel_rfl) (fun _ => rfl) (by decide)).out enc W fuel _ _ hf
  have k1 := h1
  have lt1 : ∀ x ∈ p1, x.block < W.heap.size := by obtain ⟨m, hm⟩ := k1; exact DataW.trod_lt m _ _ _ hm
  obtain ⟨q1a, q1n, q1c, rfl⟩ := okWide_slice Try.underlying31 (hval 1 31 v1 rfl rfl)
  obtain ⟨x1, hK1, b1⟩ : ∃ x : (List TPublished), RepL (oldF W) W ((cL 2 cPublished dPublished) x) [.slice q1a q1n q1c] ∧ (x.length ≤ maxLen ∧ ∀ e0 ∈ x, ((e0.f0.length ≤ maxLen ∧ ∀ e1 ∈ e0.f0, ((Lit.int .i64 e1.f0).wf = true ∧ ((Lit.int .i64 e1.f1).wf = true ∧ e1.f2.size ≤ maxLen))) ∧ (Lit.int .i64 e0.f1).wf = true)) := by
    obtain ⟨fuel, hf⟩ := h1
    exact (op1_slice (sz := 2) (B := fun y : TPublished => ((y.f0.length ≤ maxLen ∧ ∀ e0 ∈ y.f0, ((Lit.int .i64 e0.f0).wf = true ∧ ((Lit.int .i64 e0.f1).wf = true ∧ e0.f2.size ≤ maxLen))) ∧ (Lit.int .i64 y.f1).wf = true)) dPublished Try.underlying31 op1_43 (by kernel_rfl) (fun _ => rfl) (by decide)).out enc W fuel _ _ hf
  have k2 := h2
  have lt2 : ∀ x ∈ p2, x.block < W.heap.size := by obtain ⟨m, hm⟩ := k2; exact DataW.trod_lt m _ _ _ hm
  obtain ⟨q2a, q2n, q2c, rfl⟩ := okWide_slice Try.underlying39 (hval 2 39 v2 rfl rfl)
  obtain ⟨x2, hK2, b2⟩ : ∃ x : (List TValue), RepL (oldF W) W ((cL 3 cValue dValue) x) [.slice q2a q2n q2c] ∧ (x.length ≤ maxLen ∧ ∀ e0 ∈ x, ((Lit.int .i64 e0.f0).wf = true ∧ ((Lit.int .i64 e0.f1).wf = true ∧ e0.f2.size ≤ maxLen))) := by
    obtain ⟨fuel, hf⟩ := h2
    exact (op1_slice (sz := 3) (B := fun y : TValue => ((Lit.int .i64 y.f0).wf = true ∧ ((Lit.int .i64 y.f1).wf = true ∧ y.f2.size ≤ maxLen))) dValue Try.underlying39 op1_38 (by kernel_rfl) (fun _ => rfl) (by decide)).out enc W fuel _ _ hf
  clear hA0 hval0 hsz0
  obtain ⟨k, hpure⟩ := ReleaseFinds_std x0 x1 x2 b0 b1 b2
  refine (Spec.law (erasurelaw35_ReleaseFinds.spec hpure) (W := W) (by simp only [RelVs, RelV]; exact ⟨_, _, rfl, hK0.1, ⟨_, _, rfl, hK1.1, ⟨_, _, rfl, hK2.1, rfl⟩⟩⟩)).mono fun e W' ⟨he, bel⟩ => ?_
  subst he
  exact ⟨_, rfl, _, _, _, [], _, [], hW', trodAll_mk1 (shut_bool Try.underlying4 _), (trodAll_cons_mk (Below.trod laidOut (by kernel_rfl) (of_decide_eq_true (by kernel_rfl)) k0 bel lt0) (trodAll_cons_mk (Below.trod laidOut (by kernel_rfl) (of_decide_eq_true (by kernel_rfl)) k1 bel lt1) (trodAll_cons_mk (Below.trod laidOut (by kernel_rfl) (of_decide_eq_true (by kernel_rfl)) k2 bel lt2) trodAll_mk0))), rfl, bel.frame _, fun h => by cases h⟩
theorem over : Rows.releaseFindsRow.holds Try.pinned (OpenSpec.ofChange Rows.releaseFindsSpec) :=
  OpenClaim.holds_of_wide 9 Try.f9 rfl rfl rfl rfl rfl rfl rfl ⟨rfl, rfl, rfl, rfl, rfl⟩ rfl rfl rfl rfl rfl (by kernel_rfl) Try.func9 (by kernel_rfl)
    (of_decide_eq_true (by kernel_rfl)) (by unfold Func.isWrapper; first | (rw [if_pos (by decide +kernel)]; kernel_rfl) | (rw [if_neg (by decide +kernel)]; exact ⟨rfl, rfl⟩))
    (fun os started H enc _ => lifted os started H enc)
theorem proved : Rows.ReleaseFindsSaid := over
end Go.Proofs.Ytjhnpaenhdbhpaa.releaseFinds
namespace Go.Proofs.Ytjhnpaenhdbhpaa
theorem releaseFinds_holds : Rows.ReleaseFindsSaid := releaseFinds.proved
end Go.Proofs.Ytjhnpaenhdbhpaa
