/- erasurelaw30.CacheFresh of the Go program returns true for every input, and leaves its arguments as they were: no condition on the input. -/
import Derived.Test.YtjhnpaenhdbhpacRows
import Derived.WalkKit
import Derived.ProofKit
import Derived.OpenShut
import Derived.ShutString
import Derived.ChangeOld
import Derived.Below
import Derived.SizedLaws
import Derived.WideShapes
import Derived.Test.YtjhnpaenhdbhpacMCacheFresha
import Derived.Test.YtjhnpaenhdbhpacMCacheFreshb
import Derived.Test.YtjhnpaenhdbhpacMCacheFreshc
import Derived.Test.YtjhnpaenhdbhpacMCacheFreshd
import Derived.Test.YtjhnpaenhdbhpacMCacheFreshe
namespace Go.Proofs.Ytjhnpaenhdbhpac.cacheFresh
open Go.ChangeShapes Go.WideShapes Go.ChangeAt Go.RowKit Go.Proofs.YtjhnpaenhdbhpacV
open Go.ChangeMaps (open_string shut_string)
set_option linter.unusedVariables false
theorem own : ownKnob Try.prog.godebug = none := by kernel_rfl
set_option maxRecDepth 100000
theorem laidOut : laidOutB Try.prog = true := by kernel_rfl
theorem op1_23 : Op1 Try.prog 23 cCache (fun x => (x.f0.size ≤ maxLen ∧ (x.f1.size ≤ maxLen ∧ ((Lit.int .i64 x.f2).wf = true ∧ (Lit.int .i64 x.f3).wf = true)))) := op1_struct (B := fun y : ByteArray × ByteArray × Int × Int => (y.1.size ≤ maxLen ∧ (y.2.1.size ≤ maxLen ∧ ((Lit.int .i64 y.2.2.1).wf = true ∧ (Lit.int .i64 y.2.2.2).wf = true)))) cCache (fun x => (x.f0.size ≤ maxLen ∧ (x.f1.size ≤ maxLen ∧ ((Lit.int .i64 x.f2).wf = true ∧ (Lit.int .i64 x.f3).wf = true)))) (fun p => ⟨p.1, p.2.1, p.2.2.1, p.2.2.2⟩) (fun _ => rfl) (fun _ h => h) Try.underlying23 (by kernel_rfl) (opFs_cons (off := 0) (sa := 1) (a := cS) (Ba := fun y : ByteArray => y.size ≤ maxLen) (Bb := fun y : ByteArray × Int × Int => (y.1.size ≤ maxLen ∧ ((Lit.int .i64 y.2.1).wf = true ∧ (Lit.int .i64 y.2.2).wf = true))) rfl (by kernel_rfl) (op1_string Try.underlying9) (opFs_cons (off := 1) (sa := 1) (a := cS) (Ba := fun y : ByteArray => y.size ≤ maxLen) (Bb := fun y : Int × Int => ((Lit.int .i64 y.1).wf = true ∧ (Lit.int .i64 y.2).wf = true)) rfl (by kernel_rfl) (op1_string Try.underlying9) (opFs_cons (off := 2) (sa := 1) (a := (cI .i64)) (Ba := fun y : Int => (Lit.int .i64 y).wf = true) (Bb := fun y : Int => (Lit.int .i64 y).wf = true) rfl (by kernel_rfl) (op1_int Try.underlying3) (opFs_one (off := 3) (sz := 1) (c := (cI .i64)) rfl (by kernel_rfl) (op1_int Try.underlying3)))))
theorem op1_44 : Op1 Try.prog 44 cValue (fun x => ((Lit.int .i64 x.f0).wf = true ∧ ((Lit.int .i64 x.f1).wf = true ∧ x.f2.size ≤ maxLen))) := op1_struct (B := fun y : Int × Int × ByteArray => ((Lit.int .i64 y.1).wf = true ∧ ((Lit.int .i64 y.2.1).wf = true ∧ y.2.2.size ≤ maxLen))) cValue (fun x => ((Lit.int .i64 x.f0).wf = true ∧ ((Lit.int .i64 x.f1).wf = true ∧ x.f2.size ≤ maxLen))) (fun p => ⟨p.1, p.2.1, p.2.2⟩) (fun _ => rfl) (fun _ h => h) Try.underlying44 (by kernel_rfl) (opFs_cons (off := 0) (sa := 1) (a := (cI .i64)) (Ba := fun y : Int => (Lit.int .i64 y).wf = true) (Bb := fun y : Int × ByteArray => ((Lit.int .i64 y.1).wf = true ∧ y.2.size ≤ maxLen)) rfl (by kernel_rfl) (op1_int Try.underlying3) (opFs_cons (off := 1) (sa := 1) (a := (cI .i64)) (Ba := fun y : Int => (Lit.int .i64 y).wf = true) (Bb := fun y : ByteArray => y.size ≤ maxLen) rfl (by kernel_rfl) (op1_int Try.underlying2) (opFs_one (off := 2) (sz := 1) (c := cS) rfl (by kernel_rfl) (op1_string Try.underlying9))))
theorem op1_42 : Op1 Try.prog 42 cEntry (fun x => ((x.f0.length ≤ maxLen ∧ ∀ e0 ∈ x.f0, ((Lit.int .i64 e0.f0).wf = true ∧ ((Lit.int .i64 e0.f1).wf = true ∧ e0.f2.size ≤ maxLen))) ∧ (Lit.int .i64 x.f1).wf = true)) := op1_struct (B := fun y : (List TValue) × Int => ((y.1.length ≤ maxLen ∧ ∀ e0 ∈ y.1, ((Lit.int .i64 e0.f0).wf = true ∧ ((Lit.int .i64 e0.f1).wf = true ∧ e0.f2.size ≤ maxLen))) ∧ (Lit.int .i64 y.2).wf = true)) cEntry (fun x => ((x.f0.length ≤ maxLen ∧ ∀ e0 ∈ x.f0, ((Lit.int .i64 e0.f0).wf = true ∧ ((Lit.int .i64 e0.f1).wf = true ∧ e0.f2.size ≤ maxLen))) ∧ (Lit.int .i64 x.f1).wf = true)) (fun p => ⟨p.1, p.2⟩) (fun _ => rfl) (fun _ h => h) Try.underlying42 (by kernel_rfl) (opFs_cons (off := 0) (sa := 1) (a := (cL 3 cValue dValue)) (Ba := fun y : (List TValue) => (y.length ≤ maxLen ∧ ∀ e0 ∈ y, ((Lit.int .i64 e0.f0).wf = true ∧ ((Lit.int .i64 e0.f1).wf = true ∧ e0.f2.size ≤ maxLen)))) (Bb := fun y : Int => (Lit.int .i64 y).wf = true) rfl (by kernel_rfl) (op1_slice (sz := 3) (B := fun y : TValue => ((Lit.int .i64 y.f0).wf = true ∧ ((Lit.int .i64 y.f1).wf = true ∧ y.f2.size ≤ maxLen))) dValue Try.underlying26 op1_44 (by kernel_rfl) (fun _ => rfl) (by decide)) (opFs_one (off := 1) (sz := 1) (c := (cI .i64)) rfl (by kernel_rfl) (op1_int Try.underlying2)))
theorem op1_25 : Op1 Try.prog 25 c25 (fun x => ((x.f0.length ≤ maxLen ∧ ∀ e0 ∈ x.f0, ((e0.f0.length ≤ maxLen ∧ ∀ e1 ∈ e0.f0, ((Lit.int .i64 e1.f0).wf = true ∧ ((Lit.int .i64 e1.f1).wf = true ∧ e1.f2.size ≤ maxLen))) ∧ (Lit.int .i64 e0.f1).wf = true)) ∧ (x.f1.length ≤ maxLen ∧ ∀ e0 ∈ x.f1, ((e0.f0.length ≤ maxLen ∧ ∀ e1 ∈ e0.f0, ((Lit.int .i64 e1.f0).wf = true ∧ ((Lit.int .i64 e1.f1).wf = true ∧ e1.f2.size ≤ maxLen))) ∧ (Lit.int .i64 e0.f1).wf = true)))) := op1_array [fkF 24 0, fkF 24 1] (B := fun y : (List TEntry) × (List TEntry) => ((y.1.length ≤ maxLen ∧ ∀ e0 ∈ y.1, ((e0.f0.length ≤ maxLen ∧ ∀ e1 ∈ e0.f0, ((Lit.int .i64 e1.f0).wf = true ∧ ((Lit.int .i64 e1.f1).wf = true ∧ e1.f2.size ≤ maxLen))) ∧ (Lit.int .i64 e0.f1).wf = true)) ∧ (y.2.length ≤ maxLen ∧ ∀ e0 ∈ y.2, ((e0.f0.length ≤ maxLen ∧ ∀ e1 ∈ e0.f0, ((Lit.int .i64 e1.f0).wf = true ∧ ((Lit.int .i64 e1.f1).wf = true ∧ e1.f2.size ≤ maxLen))) ∧ (Lit.int .i64 e0.f1).wf = true)))) c25 (fun x => ((x.f0.length ≤ maxLen ∧ ∀ e0 ∈ x.f0, ((e0.f0.length ≤ maxLen ∧ ∀ e1 ∈ e0.f0, ((Lit.int .i64 e1.f0).wf = true ∧ ((Lit.int .i64 e1.f1).wf = true ∧ e1.f2.size ≤ maxLen))) ∧ (Lit.int .i64 e0.f1).wf = true)) ∧ (x.f1.length ≤ maxLen ∧ ∀ e0 ∈ x.f1, ((e0.f0.length ≤ maxLen ∧ ∀ e1 ∈ e0.f0, ((Lit.int .i64 e1.f0).wf = true ∧ ((Lit.int .i64 e1.f1).wf = true ∧ e1.f2.size ≤ maxLen))) ∧ (Lit.int .i64 e0.f1).wf = true)))) (fun p => ⟨p.1, p.2⟩) (fun _ => rfl) (fun _ h => h) Try.underlying25 (by kernel_rfl) (by kernel_rfl) (opFs_cons (off := 0) (sa := 1) (a := (cL 2 cEntry dEntry)) (Ba := fun y : (List TEntry) => (y.length ≤ maxLen ∧ ∀ e0 ∈ y, ((e0.f0.length ≤ maxLen ∧ ∀ e1 ∈ e0.f0, ((Lit.int .i64 e1.f0).wf = true ∧ ((Lit.int .i64 e1.f1).wf = true ∧ e1.f2.size ≤ maxLen))) ∧ (Lit.int .i64 e0.f1).wf = true))) (Bb := fun y : (List TEntry) => (y.length ≤ maxLen ∧ ∀ e0 ∈ y, ((e0.f0.length ≤ maxLen ∧ ∀ e1 ∈ e0.f0, ((Lit.int .i64 e1.f0).wf = true ∧ ((Lit.int .i64 e1.f1).wf = true ∧ e1.f2.size ≤ maxLen))) ∧ (Lit.int .i64 e0.f1).wf = true))) rfl (by kernel_rfl) (op1_slice (sz := 2) (B := fun y : TEntry => ((y.f0.length ≤ maxLen ∧ ∀ e0 ∈ y.f0, ((Lit.int .i64 e0.f0).wf = true ∧ ((Lit.int .i64 e0.f1).wf = true ∧ e0.f2.size ≤ maxLen))) ∧ (Lit.int .i64 y.f1).wf = true)) dEntry Try.underlying24 op1_42 (by kernel_rfl) (fun _ => rfl) (by decide)) (opFs_one (off := 1) (sz := 1) (c := (cL 2 cEntry dEntry)) rfl (by kernel_rfl) (op1_slice (sz := 2) (B := fun y : TEntry => ((y.f0.length ≤ maxLen ∧ ∀ e0 ∈ y.f0, ((Lit.int .i64 e0.f0).wf = true ∧ ((Lit.int .i64 e0.f1).wf = true ∧ e0.f2.size ≤ maxLen))) ∧ (Lit.int .i64 y.f1).wf = true)) dEntry Try.underlying24 op1_42 (by kernel_rfl) (fun _ => rfl) (by decide))))
set_option maxRecDepth 100000 in
theorem lifted (os : Os) (started : os.Started) (H : Type) (enc : TypeId × Value → H) :
    ReturnsInHanded {} Try.checked os 3 .any (Rows.cacheFreshSpec.pre6 enc Try.prog Try.f3 Rows.cacheFreshRow.domain false) (Rows.cacheFreshSpec.post enc Try.prog Try.f3 false true false false) := by
  refine returnsInHanded_of_change_sized (C := Try.checked) own started (by kernel_rfl) Try.func3
    (ChangeSpec.witness6 (enc := enc) (C := Try.checked) false ⟨#[], #[.agg #[.string ByteArray.empty, .string ByteArray.empty, .int .i64 0, .int .i64 0], .agg #[.slice none 0 0, .slice none 0 0], .slice none 0 0], []⟩ 8 (by kernel_rfl) (by kernel_rfl) (by kernel_rfl) (by kernel_rfl)) ?_
  intro W base args ds gs before hval0 hW hcnd hsz0 _
  have hval : ∀ (j : Nat) t v, Try.f3.params[j]? = some t → args[j]? = some v → Value.okWide Try.prog W .any base t v := hval0
  have hW' := hW
  obtain ⟨p, q, hA0, hV, rfl, hfz, hnd⟩ := hW
  have hA : DataW.TrodAll enc Try.prog W 0 (fun _ => true) true Try.f3.params.toList args.toList ds p := hA0
  rw [Try.params3] at hA hval
  obtain ⟨v0, vs0, d0, ds0, p0, q0, hargs, rfl, rfl, h0, r0⟩ := trodAll_cons hA
  obtain ⟨v1, vs1, d1, ds1, p1, q1, rfl, rfl, rfl, h1, r1⟩ := trodAll_cons r0
  obtain ⟨v2, vs2, d2, ds2, p2, q2, rfl, rfl, rfl, h2, r2⟩ := trodAll_cons r1
  obtain ⟨rfl, rfl, rfl⟩ := trodAll_nil r2
  obtain rfl : args = #[v0, v1, v2] := by cases args; simp_all
  obtain ⟨rfl, rfl⟩ := trodVars_none hV
  have k0 := h0
  have lt0 : ∀ x ∈ p0, x.block < W.heap.size := by obtain ⟨m, hm⟩ := k0; exact DataW.trod_lt m _ _ _ hm
  obtain ⟨cs0, rfl, z0⟩ := okWide_struct Try.underlying23 (hval 0 23 v0 rfl rfl)
  obtain ⟨x0, hK0, b0⟩ : ∃ x : TCache, RepL (oldF W) W (cCache x) cs0.toList ∧ (x.f0.size ≤ maxLen ∧ (x.f1.size ≤ maxLen ∧ ((Lit.int .i64 x.f2).wf = true ∧ (Lit.int .i64 x.f3).wf = true))) := by
    obtain ⟨fuel, hf⟩ := h0
    exact op1_23.out enc W fuel _ _ hf
  have k1 := h1
  have lt1 : ∀ x ∈ p1, x.block < W.heap.size := by obtain ⟨m, hm⟩ := k1; exact DataW.trod_lt m _ _ _ hm
  obtain ⟨cs1, rfl, z1⟩ := okWide_array Try.underlying25 (hval 1 25 v1 rfl rfl)
  obtain ⟨x1, hK1, b1⟩ : ∃ x : T25, RepL (oldF W) W (c25 x) cs1.toList ∧ ((x.f0.length ≤ maxLen ∧ ∀ e0 ∈ x.f0, ((e0.f0.length ≤ maxLen ∧ ∀ e1 ∈ e0.f0, ((Lit.int .i64 e1.f0).wf = true ∧ ((Lit.int .i64 e1.f1).wf = true ∧ e1.f2.size ≤ maxLen))) ∧ (Lit.int .i64 e0.f1).wf = true)) ∧ (x.f1.length ≤ maxLen ∧ ∀ e0 ∈ x.f1, ((e0.f0.length ≤ maxLen ∧ ∀ e1 ∈ e0.f0, ((Lit.int .i64 e1.f0).wf = true ∧ ((Lit.int .i64 e1.f1).wf = true ∧ e1.f2.size ≤ maxLen))) ∧ (Lit.int .i64 e0.f1).wf = true))) := by
    obtain ⟨fuel, hf⟩ := h1
    exact op1_25.out enc W fuel _ _ hf
  have k2 := h2
  have lt2 : ∀ x ∈ p2, x.block < W.heap.size := by obtain ⟨m, hm⟩ := k2; exact DataW.trod_lt m _ _ _ hm
  obtain ⟨q2a, q2n, q2c, rfl⟩ := okWide_slice Try.underlying26 (hval 2 26 v2 rfl rfl)
  obtain ⟨x2, hK2, b2⟩ : ∃ x : (List TValue), RepL (oldF W) W ((cL 3 cValue dValue) x) [.slice q2a q2n q2c] ∧ (x.length ≤ maxLen ∧ ∀ e0 ∈ x, ((Lit.int .i64 e0.f0).wf = true ∧ ((Lit.int .i64 e0.f1).wf = true ∧ e0.f2.size ≤ maxLen))) := by
    obtain ⟨fuel, hf⟩ := h2
    exact (op1_slice (sz := 3) (B := fun y : TValue => ((Lit.int .i64 y.f0).wf = true ∧ ((Lit.int .i64 y.f1).wf = true ∧ y.f2.size ≤ maxLen))) dValue Try.underlying26 op1_44 (by kernel_rfl) (fun _ => rfl) (by decide)).out enc W fuel _ _ hf
  clear hA0 hval0 hsz0
  obtain ⟨k, hpure⟩ := CacheFresh_std x0 x1 x2 b0 b1 b2
  refine (Spec.law (erasurelaw30_CacheFresh.spec hpure) (W := W) (by simp only [RelVs, RelV]; exact ⟨_, _, rfl, ⟨cs0, rfl, hK0.fv⟩, ⟨_, _, rfl, ⟨cs1, rfl, hK1.fv⟩, ⟨_, _, rfl, hK2.1, rfl⟩⟩⟩)).mono fun e W' ⟨he, bel⟩ => ?_
  subst he
  exact ⟨_, rfl, _, _, _, [], _, [], hW', trodAll_mk1 (shut_bool Try.underlying4 _), (trodAll_cons_mk (Below.trod laidOut (by kernel_rfl) (of_decide_eq_true (by kernel_rfl)) k0 bel lt0) (trodAll_cons_mk (Below.trod laidOut (by kernel_rfl) (of_decide_eq_true (by kernel_rfl)) k1 bel lt1) (trodAll_cons_mk (Below.trod laidOut (by kernel_rfl) (of_decide_eq_true (by kernel_rfl)) k2 bel lt2) trodAll_mk0))), rfl, bel.frame _, fun h => by cases h⟩
theorem over : Rows.cacheFreshRow.holds Try.pinned (OpenSpec.ofChange Rows.cacheFreshSpec) :=
  OpenClaim.holds_of_wide 3 Try.f3 rfl rfl rfl rfl rfl rfl rfl ⟨rfl, rfl, rfl, rfl, rfl⟩ rfl rfl rfl rfl rfl (by kernel_rfl) Try.func3 (by kernel_rfl)
    (of_decide_eq_true (by kernel_rfl)) (by unfold Func.isWrapper; first | (rw [if_pos (by decide +kernel)]; kernel_rfl) | (rw [if_neg (by decide +kernel)]; exact ⟨rfl, rfl⟩))
    (fun os started H enc _ => lifted os started H enc)
theorem proved : Rows.CacheFreshSaid := over
end Go.Proofs.Ytjhnpaenhdbhpac.cacheFresh
namespace Go.Proofs.Ytjhnpaenhdbhpac
theorem cacheFresh_holds : Rows.CacheFreshSaid := cacheFresh.proved
end Go.Proofs.Ytjhnpaenhdbhpac
