/- erasurelaw35.ReleaseValid of the Go program returns true for every input, and leaves its arguments as they were: no condition on the input. -/
import Derived.Test.YtjhnpaenhdbhpaaRows
import Derived.WalkKit
import Derived.ProofKit
import Derived.OpenShut
import Derived.ShutString
import Derived.ChangeOld
import Derived.Below
import Derived.SizedLaws
import Derived.WideShapes
import Derived.Test.YtjhnpaenhdbhpaaMReleaseValida
import Derived.Test.YtjhnpaenhdbhpaaMReleaseValidb
import Derived.Test.YtjhnpaenhdbhpaaMReleaseValidc
import Derived.Test.YtjhnpaenhdbhpaaMReleaseValidd
import Derived.Test.YtjhnpaenhdbhpaaMReleaseValide
import Derived.Test.YtjhnpaenhdbhpaaMReleaseValidf
import Derived.Test.YtjhnpaenhdbhpaaMReleaseValidg
namespace Go.Proofs.Ytjhnpaenhdbhpaa.releaseValid
open Go.ChangeShapes Go.WideShapes Go.ChangeAt Go.RowKit Go.Proofs.Ytjhnpaenhdbhpaa.P Go.Proofs.Ytjhnpaenhdbhpaa.Q Go.Proofs.YtjhnpaenhdbhpaaW.PrintWords
open Go.ChangeMaps (open_string shut_string)
set_option linter.unusedVariables false
theorem own : ownKnob Try.prog.godebug = none := by kernel_rfl
theorem laidOut : laidOutB Try.prog = true := by kernel_rfl
theorem opens23 : Opens Try.prog 23 k23 (fun x => (x.f0.size ≤ maxLen ∧ (x.f1.size ≤ maxLen ∧ (Lit.int .i64 x.f2).wf = true))) := opens_struct (B := fun y : ByteArray × ByteArray × Int => (y.1.size ≤ maxLen ∧ (y.2.1.size ≤ maxLen ∧ (Lit.int .i64 y.2.2).wf = true))) (fun x : S23 => (x.f0, x.f1, x.f2)) (fun p => ⟨p.1, p.2.1, p.2.2⟩) (fun _ => rfl) Try.underlying23 (by kernel_rfl) (opensFs_cons (Ba := fun y : ByteArray => y.size ≤ maxLen) (Bb := fun y : ByteArray × Int => (y.1.size ≤ maxLen ∧ (Lit.int .i64 y.2).wf = true)) rfl (by kernel_rfl) (opens_string Try.underlying9) (opensFs_cons (Ba := fun y : ByteArray => y.size ≤ maxLen) (Bb := fun y : Int => (Lit.int .i64 y).wf = true) rfl (by kernel_rfl) (opens_string Try.underlying9) (opensFs_one rfl (by kernel_rfl) (opens_int Try.underlying3))))
theorem opens38 : Opens Try.prog 38 k38 (fun x => ((Lit.int .i64 x.f0).wf = true ∧ ((Lit.int .i64 x.f1).wf = true ∧ x.f2.size ≤ maxLen))) := opens_struct (B := fun y : Int × Int × ByteArray => ((Lit.int .i64 y.1).wf = true ∧ ((Lit.int .i64 y.2.1).wf = true ∧ y.2.2.size ≤ maxLen))) (fun x : S38 => (x.f0, x.f1, x.f2)) (fun p => ⟨p.1, p.2.1, p.2.2⟩) (fun _ => rfl) Try.underlying38 (by kernel_rfl) (opensFs_cons (Ba := fun y : Int => (Lit.int .i64 y).wf = true) (Bb := fun y : Int × ByteArray => ((Lit.int .i64 y.1).wf = true ∧ y.2.size ≤ maxLen)) rfl (by kernel_rfl) (opens_int Try.underlying3) (opensFs_cons (Ba := fun y : Int => (Lit.int .i64 y).wf = true) (Bb := fun y : ByteArray => y.size ≤ maxLen) rfl (by kernel_rfl) (opens_int Try.underlying2) (opensFs_one rfl (by kernel_rfl) (opens_string Try.underlying9))))
theorem opens43 : Opens Try.prog 43 k43 (fun x => ((x.f0.length ≤ maxLen ∧ ∀ e0 ∈ x.f0, ((Lit.int .i64 e0.f0).wf = true ∧ ((Lit.int .i64 e0.f1).wf = true ∧ e0.f2.size ≤ maxLen))) ∧ (Lit.int .i64 x.f1).wf = true)) := opens_struct (B := fun y : List (S38) × Int => ((y.1.length ≤ maxLen ∧ ∀ e0 ∈ y.1, ((Lit.int .i64 e0.f0).wf = true ∧ ((Lit.int .i64 e0.f1).wf = true ∧ e0.f2.size ≤ maxLen))) ∧ (Lit.int .i64 y.2).wf = true)) (fun x : S43 => (x.f0, x.f1)) (fun p => ⟨p.1, p.2⟩) (fun _ => rfl) Try.underlying43 (by kernel_rfl) (opensFs_cons (Ba := fun y : List (S38) => (y.length ≤ maxLen ∧ ∀ e0 ∈ y, ((Lit.int .i64 e0.f0).wf = true ∧ ((Lit.int .i64 e0.f1).wf = true ∧ e0.f2.size ≤ maxLen)))) (Bb := fun y : Int => (Lit.int .i64 y).wf = true) rfl (by kernel_rfl) (opens_slice (B := fun y : S38 => ((Lit.int .i64 y.f0).wf = true ∧ ((Lit.int .i64 y.f1).wf = true ∧ y.f2.size ≤ maxLen))) Try.underlying39 opens38 (by kernel_rfl)) (opensFs_one rfl (by kernel_rfl) (opens_int Try.underlying2)))
set_option maxRecDepth 100000 in
theorem lifted (os : Os) (started : os.Started) (H : Type) (enc : TypeId × Value → H) :
    ReturnsInHanded {} Try.checked os 7 .any (Rows.releaseValidSpec.pre6 enc Try.prog Try.f7 Rows.releaseValidRow.domain false) (Rows.releaseValidSpec.post enc Try.prog Try.f7 false true false false) := by
  refine returnsInHanded_of_change_sized (C := Try.checked) own started (by kernel_rfl) Try.func7
    (ChangeSpec.witness6 (enc := enc) (C := Try.checked) false ⟨#[], #[.agg #[.string ByteArray.empty, .string ByteArray.empty, .int .i64 0], .slice none 0 0, .slice none 0 0], []⟩ 8 (by kernel_rfl) (by kernel_rfl) (by kernel_rfl) (by kernel_rfl)) ?_
  intro W base args ds gs before hval0 hW hcnd hsz0 _
  have hsz : (DataW.weightsEach Try.prog (Try.f7.params.toList ++ Rows.releaseValidSpec.plain.varTypes Try.prog) (ds ++ gs)).all (· ≤ reachBytes) = true := hsz0
  have hval : ∀ (j : Nat) t v, Try.f7.params[j]? = some t → args[j]? = some v → Value.okWide Try.prog W .any base t v := hval0
  have hW' := hW
  obtain ⟨p, q, hA0, hV, rfl, hfz, hnd⟩ := hW
  have hA : DataW.TrodAll enc Try.prog W 0 (fun _ => true) true Try.f7.params.toList args.toList ds p := hA0
  rw [Try.params7] at hA hval hsz
  obtain ⟨v0, vs0, d0, ds0, p0, q0, hargs, rfl, rfl, h0, r0⟩ := trodAll_cons hA
  obtain ⟨v1, vs1, d1, ds1, p1, q1, rfl, rfl, rfl, h1, r1⟩ := trodAll_cons r0
  obtain ⟨v2, vs2, d2, ds2, p2, q2, rfl, rfl, rfl, h2, r2⟩ := trodAll_cons r1
  obtain ⟨rfl, rfl, rfl⟩ := trodAll_nil r2
  obtain rfl : args = #[v0, v1, v2] := by cases args; simp_all
  obtain ⟨rfl, rfl⟩ := trodVars_none hV
  have k0 := h0
  have lt0 : ∀ x ∈ p0, x.block < W.heap.size := by obtain ⟨m, hm⟩ := k0; exact DataW.trod_lt m _ _ _ hm
  obtain ⟨cs0, rfl, z0⟩ := okWide_struct Try.underlying23 (hval 0 23 v0 rfl rfl)
  obtain ⟨x0, hK0, b0⟩ : ∃ x : S23, k23.K W x cs0.toList ∧ (x.f0.size ≤ maxLen ∧ (x.f1.size ≤ maxLen ∧ (Lit.int .i64 x.f2).wf = true)) := by
    obtain ⟨fuel, hf⟩ := h0
    exact opens23.out enc W fuel _ _ hf
  have e0 := k23_open hK0
  obtain rfl : cs0 = #[.string x0.f0, .string x0.f1, .int .i64 x0.f2] := Array.toList_inj.1 e0
  have k1 := h1
  have lt1 : ∀ x ∈ p1, x.block < W.heap.size := by obtain ⟨m, hm⟩ := k1; exact DataW.trod_lt m _ _ _ hm
  obtain ⟨q1a, q1n, q1c, rfl⟩ := okWide_slice Try.underlying31 (hval 1 31 v1 rfl rfl)
  obtain ⟨x1, hK1, b1⟩ : ∃ x : List (S43), (Kd.slice 43 (k43)).K W x [.slice q1a q1n q1c] ∧ (x.length ≤ maxLen ∧ ∀ e0 ∈ x, ((e0.f0.length ≤ maxLen ∧ ∀ e1 ∈ e0.f0, ((Lit.int .i64 e1.f0).wf = true ∧ ((Lit.int .i64 e1.f1).wf = true ∧ e1.f2.size ≤ maxLen))) ∧ (Lit.int .i64 e0.f1).wf = true)) := by
    obtain ⟨fuel, hf⟩ := h1
    exact (opens_slice (B := fun y : S43 => ((y.f0.length ≤ maxLen ∧ ∀ e0 ∈ y.f0, ((Lit.int .i64 e0.f0).wf = true ∧ ((Lit.int .i64 e0.f1).wf = true ∧ e0.f2.size ≤ maxLen))) ∧ (Lit.int .i64 y.f1).wf = true)) Try.underlying31 opens43 (by kernel_rfl)).out enc W fuel _ _ hf
  obtain ⟨A1, c1, e1, l1, g1⟩ := hK1
  obtain ⟨rfl, rfl, rfl⟩ : q1a = A1 ∧ q1n = x1.length ∧ q1c = c1 := by simpa using e1
  have k2 := h2
  have lt2 : ∀ x ∈ p2, x.block < W.heap.size := by obtain ⟨m, hm⟩ := k2; exact DataW.trod_lt m _ _ _ hm
  obtain ⟨q2a, q2n, q2c, rfl⟩ := okWide_slice Try.underlying34 (hval 2 34 v2 rfl rfl)
  obtain ⟨x2, hK2, b2⟩ : ∃ x : List Int, (Kd.slice 3 (Kd.int .i64)).K W x [.slice q2a q2n q2c] ∧ (x.length ≤ maxLen ∧ ∀ e0 ∈ x, (Lit.int .i64 e0).wf = true) := by
    obtain ⟨fuel, hf⟩ := h2
    exact (opens_slice (B := fun y : Int => (Lit.int .i64 y).wf = true) Try.underlying34 (opens_int Try.underlying3) (by kernel_rfl)).out enc W fuel _ _ hf
  obtain ⟨A2, c2, e2, l2, g2⟩ := hK2
  obtain ⟨rfl, rfl, rfl⟩ : q2a = A2 ∧ q2n = x2.length ∧ q2c = c2 := by simpa using e2
  clear hA0 hval0 hsz0 hsz
  obtain ⟨k, hpure⟩ := Q.ReleaseValid_std x0 x1 x2 b0 b1 b2
  refine (P.erasurelaw35_ReleaseValid.calls (k := k) (a0_0 := x0.f0) (a0_1 := x0.f1) (a0_2 := x0.f2) (A1 := q1a) (c1 := q1c) (l1 := x1) (hr1 := g1) (hc1 := l1) (A2 := q2a) (c2 := q2c) (l2 := x2) (hr2 := g2) (hc2 := l2) (r := true) (w := W) (h := hpure)).mono fun e W' ⟨he, bel0⟩ => ?_
  have bel : Below W.heap.size W W' := bel0
  subst he
  exact ⟨_, rfl, _, _, _, [], _, [], hW', trodAll_mk1 (shut_bool Try.underlying4 _), (trodAll_cons_mk (Below.trod laidOut (by kernel_rfl) (of_decide_eq_true (by kernel_rfl)) k0 bel lt0) (trodAll_cons_mk (Below.trod laidOut (by kernel_rfl) (of_decide_eq_true (by kernel_rfl)) k1 bel lt1) (trodAll_cons_mk (Below.trod laidOut (by kernel_rfl) (of_decide_eq_true (by kernel_rfl)) k2 bel lt2) trodAll_mk0))), rfl, bel.frame _, fun h => by cases h⟩
theorem over : Rows.releaseValidRow.holds Try.pinned (OpenSpec.ofChange Rows.releaseValidSpec) :=
  OpenClaim.holds_of_wide 7 Try.f7 rfl rfl rfl rfl rfl rfl rfl ⟨rfl, rfl, rfl, rfl, rfl⟩ rfl rfl rfl rfl rfl (by kernel_rfl) Try.func7 (by kernel_rfl)
    (of_decide_eq_true (by kernel_rfl)) (by unfold Func.isWrapper; first | (rw [if_pos (by decide +kernel)]; kernel_rfl) | (rw [if_neg (by decide +kernel)]; exact ⟨rfl, rfl⟩))
    (fun os started H enc _ => lifted os started H enc)
theorem proved : Rows.ReleaseValidSaid := over
end Go.Proofs.Ytjhnpaenhdbhpaa.releaseValid
namespace Go.Proofs.Ytjhnpaenhdbhpaa
theorem releaseValid_holds : Rows.ReleaseValidSaid := releaseValid.proved
end Go.Proofs.Ytjhnpaenhdbhpaa
