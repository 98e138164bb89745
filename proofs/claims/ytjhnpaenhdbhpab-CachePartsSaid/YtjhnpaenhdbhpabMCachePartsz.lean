/- erasurelaw30.CacheParts of the Go program returns true for every input, and leaves its arguments as they were: no condition on the input. -/
import Derived.Test.YtjhnpaenhdbhpabRows
import Derived.WalkKit
import Derived.ProofKit
import Derived.OpenShut
import Derived.ShutString
import Derived.ChangeOld
import Derived.Below
import Derived.SizedLaws
import Derived.WideShapes
import Derived.Test.YtjhnpaenhdbhpabMCachePartsa
import Derived.Test.YtjhnpaenhdbhpabMCachePartsb
import Derived.Test.YtjhnpaenhdbhpabMCachePartsc
import Derived.Test.YtjhnpaenhdbhpabMCachePartsd
import Derived.Test.YtjhnpaenhdbhpabMCachePartse
namespace Go.Proofs.Ytjhnpaenhdbhpab.cacheParts
open Go.ChangeShapes Go.WideShapes Go.ChangeAt Go.RowKit Go.Proofs.YtjhnpaenhdbhpabV
open Go.ChangeMaps (open_string shut_string)
set_option linter.unusedVariables false
theorem own : ownKnob Try.prog.godebug = none := by kernel_rfl
set_option maxRecDepth 100000
theorem laidOut : laidOutB Try.prog = true := by kernel_rfl
theorem op1_24 : Op1 Try.prog 24 cValue (fun x => ((Lit.int .i64 x.f0).wf = true ∧ ((Lit.int .i64 x.f1).wf = true ∧ x.f2.size ≤ maxLen))) := op1_struct (B := fun y : Int × Int × ByteArray => ((Lit.int .i64 y.1).wf = true ∧ ((Lit.int .i64 y.2.1).wf = true ∧ y.2.2.size ≤ maxLen))) cValue (fun x => ((Lit.int .i64 x.f0).wf = true ∧ ((Lit.int .i64 x.f1).wf = true ∧ x.f2.size ≤ maxLen))) (fun p => ⟨p.1, p.2.1, p.2.2⟩) (fun _ => rfl) (fun _ h => h) Try.underlying24 (by kernel_rfl) (opFs_cons (off := 0) (sa := 1) (Ba := fun y : Int => (Lit.int .i64 y).wf = true) (Bb := fun y : Int × ByteArray => ((Lit.int .i64 y.1).wf = true ∧ y.2.size ≤ maxLen)) rfl (by kernel_rfl) (op1_int Try.underlying3) (opFs_cons (off := 1) (sa := 1) (Ba := fun y : Int => (Lit.int .i64 y).wf = true) (Bb := fun y : ByteArray => y.size ≤ maxLen) rfl (by kernel_rfl) (op1_int Try.underlying2) (opFs_one (off := 2) (sz := 1) rfl (by kernel_rfl) (op1_string Try.underlying9))))
theorem op1_36 : Op1 Try.prog 36 cEntry (fun x => ((x.f0.length ≤ maxLen ∧ ∀ e0 ∈ x.f0, ((Lit.int .i64 e0.f0).wf = true ∧ ((Lit.int .i64 e0.f1).wf = true ∧ e0.f2.size ≤ maxLen))) ∧ (Lit.int .i64 x.f1).wf = true)) := op1_struct (B := fun y : (List TValue) × Int => ((y.1.length ≤ maxLen ∧ ∀ e0 ∈ y.1, ((Lit.int .i64 e0.f0).wf = true ∧ ((Lit.int .i64 e0.f1).wf = true ∧ e0.f2.size ≤ maxLen))) ∧ (Lit.int .i64 y.2).wf = true)) cEntry (fun x => ((x.f0.length ≤ maxLen ∧ ∀ e0 ∈ x.f0, ((Lit.int .i64 e0.f0).wf = true ∧ ((Lit.int .i64 e0.f1).wf = true ∧ e0.f2.size ≤ maxLen))) ∧ (Lit.int .i64 x.f1).wf = true)) (fun p => ⟨p.1, p.2⟩) (fun _ => rfl) (fun _ h => h) Try.underlying36 (by kernel_rfl) (opFs_cons (off := 0) (sa := 1) (Ba := fun y : (List TValue) => (y.length ≤ maxLen ∧ ∀ e0 ∈ y, ((Lit.int .i64 e0.f0).wf = true ∧ ((Lit.int .i64 e0.f1).wf = true ∧ e0.f2.size ≤ maxLen)))) (Bb := fun y : Int => (Lit.int .i64 y).wf = true) rfl (by kernel_rfl) (op1_slice (B := fun y : TValue => ((Lit.int .i64 y.f0).wf = true ∧ ((Lit.int .i64 y.f1).wf = true ∧ y.f2.size ≤ maxLen))) dValue Try.underlying33 op1_24 (by kernel_rfl) (fun _ => rfl) (by decide)) (opFs_one (off := 1) (sz := 1) rfl (by kernel_rfl) (op1_int Try.underlying2)))
set_option maxRecDepth 100000 in
theorem lifted (os : Os) (started : os.Started) (H : Type) (enc : TypeId × Value → H) :
    ReturnsInHanded {} Try.checked os 8 .any (Rows.cachePartsSpec.pre6 enc Try.prog Try.f8 Rows.cachePartsRow.domain false) (Rows.cachePartsSpec.post enc Try.prog Try.f8 false true false false) := by
  refine returnsInHanded_of_change_sized (C := Try.checked) own started (by kernel_rfl) Try.func8
    (ChangeSpec.witness6 (enc := enc) (C := Try.checked) false ⟨#[], #[.slice none 0 0, .int .i64 0], []⟩ 8 (by kernel_rfl) (by kernel_rfl) (by kernel_rfl) (by kernel_rfl)) ?_
  intro W base args ds gs before hval0 hW hcnd hsz0 _
  have hval : ∀ (j : Nat) t v, Try.f8.params[j]? = some t → args[j]? = some v → Value.okWide Try.prog W .any base t v := hval0
  have hW' := hW
  obtain ⟨p, q, hA0, hV, rfl, hfz, hnd⟩ := hW
  have hA : DataW.TrodAll enc Try.prog W 0 (fun _ => true) true Try.f8.params.toList args.toList ds p := hA0
  rw [Try.params8] at hA hval
  obtain ⟨v0, vs0, d0, ds0, p0, q0, hargs, rfl, rfl, h0, r0⟩ := trodAll_cons hA
  obtain ⟨v1, vs1, d1, ds1, p1, q1, rfl, rfl, rfl, h1, r1⟩ := trodAll_cons r0
  obtain ⟨rfl, rfl, rfl⟩ := trodAll_nil r1
  obtain rfl : args = #[v0, v1] := by cases args; simp_all
  obtain ⟨rfl, rfl⟩ := trodVars_none hV
  have k0 := h0
  have lt0 : ∀ x ∈ p0, x.block < W.heap.size := by obtain ⟨m, hm⟩ := k0; exact DataW.trod_lt m _ _ _ hm
  obtain ⟨q0a, q0n, q0c, rfl⟩ := okWide_slice Try.underlying22 (hval 0 22 v0 rfl rfl)
  obtain ⟨x0, hK0, b0⟩ : ∃ x : (List TEntry), RepL (oldF W) W ((cL 2 cEntry dEntry) x) [.slice q0a q0n q0c] ∧ (x.length ≤ maxLen ∧ ∀ e0 ∈ x, ((e0.f0.length ≤ maxLen ∧ ∀ e1 ∈ e0.f0, ((Lit.int .i64 e1.f0).wf = true ∧ ((Lit.int .i64 e1.f1).wf = true ∧ e1.f2.size ≤ maxLen))) ∧ (Lit.int .i64 e0.f1).wf = true)) := by
    obtain ⟨fuel, hf⟩ := h0
    exact (op1_slice (B := fun y : TEntry => ((y.f0.length ≤ maxLen ∧ ∀ e0 ∈ y.f0, ((Lit.int .i64 e0.f0).wf = true ∧ ((Lit.int .i64 e0.f1).wf = true ∧ e0.f2.size ≤ maxLen))) ∧ (Lit.int .i64 y.f1).wf = true)) dEntry Try.underlying22 op1_36 (by kernel_rfl) (fun _ => rfl) (by decide)).out enc W fuel _ _ hf
  obtain ⟨x1, rfl, rfl, rfl, w1⟩ := open_int Try.underlying3 (hval 1 3 v1 rfl rfl) h1
  clear hA0 hval0 hsz0
  obtain ⟨k, hpure⟩ := CacheParts_std x0 x1 b0 w1
  refine (Spec.law (erasurelaw30_CacheParts.spec hpure) (W := W) (by simp only [RelVs, RelV]; exact ⟨_, _, rfl, hK0.1, ⟨_, _, rfl, rfl, rfl⟩⟩)).mono fun e W' ⟨he, bel⟩ => ?_
  subst he
  exact ⟨_, rfl, _, _, _, [], _, [], hW', trodAll_mk1 (shut_bool Try.underlying4 _), (trodAll_cons_mk (Below.trod laidOut (by kernel_rfl) (of_decide_eq_true (by kernel_rfl)) k0 bel lt0) (trodAll_cons_mk (shut_int Try.underlying3 w1) trodAll_mk0)), rfl, bel.frame _, fun h => by cases h⟩
theorem over : Rows.cachePartsRow.holds Try.pinned (OpenSpec.ofChange Rows.cachePartsSpec) :=
  OpenClaim.holds_of_wide 8 Try.f8 rfl rfl rfl rfl rfl rfl rfl ⟨rfl, rfl, rfl, rfl, rfl⟩ rfl rfl rfl rfl rfl (by kernel_rfl) Try.func8 (by kernel_rfl)
    (of_decide_eq_true (by kernel_rfl)) (by unfold Func.isWrapper; first | (rw [if_pos (by decide +kernel)]; kernel_rfl) | (rw [if_neg (by decide +kernel)]; exact ⟨rfl, rfl⟩))
    (fun os started H enc _ => lifted os started H enc)
theorem proved : Rows.CachePartsSaid := over
end Go.Proofs.Ytjhnpaenhdbhpab.cacheParts
namespace Go.Proofs.Ytjhnpaenhdbhpab
theorem cacheParts_holds : Rows.CachePartsSaid := cacheParts.proved
end Go.Proofs.Ytjhnpaenhdbhpab
