/- erasurelaw30.CacheForgets of the Go program returns true for every input, and leaves its arguments as they were: no condition on the input. -/
import Derived.Test.YtjhnpaenhdbhpabRows
import Derived.WalkKit
import Derived.ProofKit
import Derived.OpenShut
import Derived.ShutString
import Derived.ChangeOld
import Derived.Below
import Derived.SizedLaws
import Derived.WideShapes
import Derived.Test.YtjhnpaenhdbhpabMCacheForgetsa
import Derived.Test.YtjhnpaenhdbhpabMCacheForgetsb
import Derived.Test.YtjhnpaenhdbhpabMCacheForgetsc
import Derived.Test.YtjhnpaenhdbhpabMCacheForgetsd
import Derived.Test.YtjhnpaenhdbhpabMCacheForgetse
namespace Go.Proofs.Ytjhnpaenhdbhpab.cacheForgets
open Go.ChangeShapes Go.WideShapes Go.ChangeAt Go.RowKit Go.Proofs.YtjhnpaenhdbhpabV
open Go.ChangeMaps (open_string shut_string)
set_option linter.unusedVariables false
theorem own : ownKnob Try.prog.godebug = none := by kernel_rfl
set_option maxRecDepth 100000
theorem laidOut : laidOutB Try.prog = true := by kernel_rfl
theorem op1_31 : Op1 Try.prog 31 cCache (fun x => (x.f0.size ≤ maxLen ∧ (x.f1.size ≤ maxLen ∧ ((Lit.int .i64 x.f2).wf = true ∧ (Lit.int .i64 x.f3).wf = true)))) := op1_struct (B := fun y : ByteArray × ByteArray × Int × Int => (y.1.size ≤ maxLen ∧ (y.2.1.size ≤ maxLen ∧ ((Lit.int .i64 y.2.2.1).wf = true ∧ (Lit.int .i64 y.2.2.2).wf = true)))) cCache (fun x => (x.f0.size ≤ maxLen ∧ (x.f1.size ≤ maxLen ∧ ((Lit.int .i64 x.f2).wf = true ∧ (Lit.int .i64 x.f3).wf = true)))) (fun p => ⟨p.1, p.2.1, p.2.2.1, p.2.2.2⟩) (fun _ => rfl) (fun _ h => h) Try.underlying31 (by kernel_rfl) (opFs_cons (off := 0) (sa := 1) (a := cS) (Ba := fun y : ByteArray => y.size ≤ maxLen) (Bb := fun y : ByteArray × Int × Int => (y.1.size ≤ maxLen ∧ ((Lit.int .i64 y.2.1).wf = true ∧ (Lit.int .i64 y.2.2).wf = true))) rfl (by kernel_rfl) (op1_string Try.underlying9) (opFs_cons (off := 1) (sa := 1) (a := cS) (Ba := fun y : ByteArray => y.size ≤ maxLen) (Bb := fun y : Int × Int => ((Lit.int .i64 y.1).wf = true ∧ (Lit.int .i64 y.2).wf = true)) rfl (by kernel_rfl) (op1_string Try.underlying9) (opFs_cons (off := 2) (sa := 1) (a := (cI .i64)) (Ba := fun y : Int => (Lit.int .i64 y).wf = true) (Bb := fun y : Int => (Lit.int .i64 y).wf = true) rfl (by kernel_rfl) (op1_int Try.underlying3) (opFs_one (off := 3) (sz := 1) (c := (cI .i64)) rfl (by kernel_rfl) (op1_int Try.underlying3)))))
theorem op1_24 : Op1 Try.prog 24 cValue (fun x => ((Lit.int .i64 x.f0).wf = true ∧ ((Lit.int .i64 x.f1).wf = true ∧ x.f2.size ≤ maxLen))) := op1_struct (B := fun y : Int × Int × ByteArray => ((Lit.int .i64 y.1).wf = true ∧ ((Lit.int .i64 y.2.1).wf = true ∧ y.2.2.size ≤ maxLen))) cValue (fun x => ((Lit.int .i64 x.f0).wf = true ∧ ((Lit.int .i64 x.f1).wf = true ∧ x.f2.size ≤ maxLen))) (fun p => ⟨p.1, p.2.1, p.2.2⟩) (fun _ => rfl) (fun _ h => h) Try.underlying24 (by kernel_rfl) (opFs_cons (off := 0) (sa := 1) (a := (cI .i64)) (Ba := fun y : Int => (Lit.int .i64 y).wf = true) (Bb := fun y : Int × ByteArray => ((Lit.int .i64 y.1).wf = true ∧ y.2.size ≤ maxLen)) rfl (by kernel_rfl) (op1_int Try.underlying3) (opFs_cons (off := 1) (sa := 1) (a := (cI .i64)) (Ba := fun y : Int => (Lit.int .i64 y).wf = true) (Bb := fun y : ByteArray => y.size ≤ maxLen) rfl (by kernel_rfl) (op1_int Try.underlying2) (opFs_one (off := 2) (sz := 1) (c := cS) rfl (by kernel_rfl) (op1_string Try.underlying9))))
theorem op1_36 : Op1 Try.prog 36 cEntry (fun x => ((x.f0.length ≤ maxLen ∧ ∀ e0 ∈ x.f0, ((Lit.int .i64 e0.f0).wf = true ∧ ((Lit.int .i64 e0.f1).wf = true ∧ e0.f2.size ≤ maxLen))) ∧ (Lit.int .i64 x.f1).wf = true)) := op1_struct (B := fun y : (List TValue) × Int => ((y.1.length ≤ maxLen ∧ ∀ e0 ∈ y.1, ((Lit.int .i64 e0.f0).wf = true ∧ ((Lit.int .i64 e0.f1).wf = true ∧ e0.f2.size ≤ maxLen))) ∧ (Lit.int .i64 y.2).wf = true)) cEntry (fun x => ((x.f0.length ≤ maxLen ∧ ∀ e0 ∈ x.f0, ((Lit.int .i64 e0.f0).wf = true ∧ ((Lit.int .i64 e0.f1).wf = true ∧ e0.f2.size ≤ maxLen))) ∧ (Lit.int .i64 x.f1).wf = true)) (fun p => ⟨p.1, p.2⟩) (fun _ => rfl) (fun _ h => h) Try.underlying36 (by kernel_rfl) (opFs_cons (off := 0) (sa := 1) (a := (cL 3 cValue dValue)) (Ba := fun y : (List TValue) => (y.length ≤ maxLen ∧ ∀ e0 ∈ y, ((Lit.int .i64 e0.f0).wf = true ∧ ((Lit.int .i64 e0.f1).wf = true ∧ e0.f2.size ≤ maxLen)))) (Bb := fun y : Int => (Lit.int .i64 y).wf = true) rfl (by kernel_rfl) (op1_slice (sz := 3) (B := fun y : TValue => ((Lit.int .i64 y.f0).wf = true ∧ ((Lit.int .i64 y.f1).wf = true ∧ y.f2.size ≤ maxLen))) dValue Try.underlying33 op1_24 (by kernel_rfl) (fun _ => rfl) (by decide)) (opFs_one (off := 1) (sz := 1) (c := (cI .i64)) rfl (by kernel_rfl) (op1_int Try.underlying2)))
theorem op1_46 : Op1 Try.prog 46 cCached (fun x => (((Lit.int .i64 x.f0.f0).wf = true ∧ ((Lit.int .i64 x.f0.f1).wf = true ∧ x.f0.f2.size ≤ maxLen)) ∧ ((x.f1.length ≤ maxLen ∧ ∀ e0 ∈ x.f1, ((e0.f0.length ≤ maxLen ∧ ∀ e1 ∈ e0.f0, ((Lit.int .i64 e1.f0).wf = true ∧ ((Lit.int .i64 e1.f1).wf = true ∧ e1.f2.size ≤ maxLen))) ∧ (Lit.int .i64 e0.f1).wf = true)) ∧ (Lit.int .i64 x.f2).wf = true))) := op1_struct (B := fun y : TValue × (List TEntry) × Int => (((Lit.int .i64 y.1.f0).wf = true ∧ ((Lit.int .i64 y.1.f1).wf = true ∧ y.1.f2.size ≤ maxLen)) ∧ ((y.2.1.length ≤ maxLen ∧ ∀ e0 ∈ y.2.1, ((e0.f0.length ≤ maxLen ∧ ∀ e1 ∈ e0.f0, ((Lit.int .i64 e1.f0).wf = true ∧ ((Lit.int .i64 e1.f1).wf = true ∧ e1.f2.size ≤ maxLen))) ∧ (Lit.int .i64 e0.f1).wf = true)) ∧ (Lit.int .i64 y.2.2).wf = true))) cCached (fun x => (((Lit.int .i64 x.f0.f0).wf = true ∧ ((Lit.int .i64 x.f0.f1).wf = true ∧ x.f0.f2.size ≤ maxLen)) ∧ ((x.f1.length ≤ maxLen ∧ ∀ e0 ∈ x.f1, ((e0.f0.length ≤ maxLen ∧ ∀ e1 ∈ e0.f0, ((Lit.int .i64 e1.f0).wf = true ∧ ((Lit.int .i64 e1.f1).wf = true ∧ e1.f2.size ≤ maxLen))) ∧ (Lit.int .i64 e0.f1).wf = true)) ∧ (Lit.int .i64 x.f2).wf = true))) (fun p => ⟨p.1, p.2.1, p.2.2⟩) (fun _ => rfl) (fun _ h => h) Try.underlying46 (by kernel_rfl) (opFs_cons (off := 0) (sa := 3) (a := cValue) (Ba := fun y : TValue => ((Lit.int .i64 y.f0).wf = true ∧ ((Lit.int .i64 y.f1).wf = true ∧ y.f2.size ≤ maxLen))) (Bb := fun y : (List TEntry) × Int => ((y.1.length ≤ maxLen ∧ ∀ e0 ∈ y.1, ((e0.f0.length ≤ maxLen ∧ ∀ e1 ∈ e0.f0, ((Lit.int .i64 e1.f0).wf = true ∧ ((Lit.int .i64 e1.f1).wf = true ∧ e1.f2.size ≤ maxLen))) ∧ (Lit.int .i64 e0.f1).wf = true)) ∧ (Lit.int .i64 y.2).wf = true)) rfl (by kernel_rfl) op1_24 (opFs_cons (off := 3) (sa := 1) (a := (cL 2 cEntry dEntry)) (Ba := fun y : (List TEntry) => (y.length ≤ maxLen ∧ ∀ e0 ∈ y, ((e0.f0.length ≤ maxLen ∧ ∀ e1 ∈ e0.f0, ((Lit.int .i64 e1.f0).wf = true ∧ ((Lit.int .i64 e1.f1).wf = true ∧ e1.f2.size ≤ maxLen))) ∧ (Lit.int .i64 e0.f1).wf = true))) (Bb := fun y : Int => (Lit.int .i64 y).wf = true) rfl (by kernel_rfl) (op1_slice (sz := 2) (B := fun y : TEntry => ((y.f0.length ≤ maxLen ∧ ∀ e0 ∈ y.f0, ((Lit.int .i64 e0.f0).wf = true ∧ ((Lit.int .i64 e0.f1).wf = true ∧ e0.f2.size ≤ maxLen))) ∧ (Lit.int .i64 y.f1).wf = true)) dEntry Try.underlying22 op1_36 (by kernel_rfl) (fun _ => rfl) (by decide)) (opFs_one (off := 4) (sz := 1) (c := (cI .i64)) rfl (by kernel_rfl) (op1_int Try.underlying3))))
set_option maxRecDepth 100000 in
theorem lifted (os : Os) (started : os.Started) (H : Type) (enc : TypeId × Value → H) :
    ReturnsInHanded {} Try.checked os 10 .any (Rows.cacheForgetsSpec.pre6 enc Try.prog Try.f10 Rows.cacheForgetsRow.domain false) (Rows.cacheForgetsSpec.post enc Try.prog Try.f10 false true false false) := by
  refine returnsInHanded_of_change_sized (C := Try.checked) own started (by kernel_rfl) Try.func10
    (ChangeSpec.witness6 (enc := enc) (C := Try.checked) false ⟨#[], #[.agg #[.string ByteArray.empty, .string ByteArray.empty, .int .i64 0, .int .i64 0], .slice none 0 0, .slice none 0 0], []⟩ 8 (by kernel_rfl) (by kernel_rfl) (by kernel_rfl) (by kernel_rfl)) ?_
  intro W base args ds gs before hval0 hW hcnd hsz0 _
  have hval : ∀ (j : Nat) t v, Try.f10.params[j]? = some t → args[j]? = some v → Value.okWide Try.prog W .any base t v := hval0
  have hW' := hW
  obtain ⟨p, q, hA0, hV, rfl, hfz, hnd⟩ := hW
  have hA : DataW.TrodAll enc Try.prog W 0 (fun _ => true) true Try.f10.params.toList args.toList ds p := hA0
  rw [Try.params10] at hA hval
  obtain ⟨v0, vs0, d0, ds0, p0, q0, hargs, rfl, rfl, h0, r0⟩ := trodAll_cons hA
  obtain ⟨v1, vs1, d1, ds1, p1, q1, rfl, rfl, rfl, h1, r1⟩ := trodAll_cons r0
  obtain ⟨v2, vs2, d2, ds2, p2, q2, rfl, rfl, rfl, h2, r2⟩ := trodAll_cons r1
  obtain ⟨rfl, rfl, rfl⟩ := trodAll_nil r2
  obtain rfl : args = #[v0, v1, v2] := by cases args; simp_all
  obtain ⟨rfl, rfl⟩ := trodVars_none hV
  have k0 := h0
  have lt0 : ∀ x ∈ p0, x.block < W.heap.size := by obtain ⟨m, hm⟩ := k0; exact DataW.trod_lt m _ _ _ hm
  obtain ⟨cs0, rfl, z0⟩ := okWide_struct Try.underlying31 (hval 0 31 v0 rfl rfl)
  obtain ⟨x0, hK0, b0⟩ : ∃ x : TCache, RepL (oldF W) W (cCache x) cs0.toList ∧ (x.f0.size ≤ maxLen ∧ (x.f1.size ≤ maxLen ∧ ((Lit.int .i64 x.f2).wf = true ∧ (Lit.int .i64 x.f3).wf = true))) := by
    obtain ⟨fuel, hf⟩ := h0
    exact op1_31.out enc W fuel _ _ hf
  have k1 := h1
  have lt1 : ∀ x ∈ p1, x.block < W.heap.size := by obtain ⟨m, hm⟩ := k1; exact DataW.trod_lt m _ _ _ hm
  obtain ⟨q1a, q1n, q1c, rfl⟩ := okWide_slice Try.underlying37 (hval 1 37 v1 rfl rfl)
  obtain ⟨x1, hK1, b1⟩ : ∃ x : (List TCached), RepL (oldF W) W ((cL 5 cCached dCached) x) [.slice q1a q1n q1c] ∧ (x.length ≤ maxLen ∧ ∀ e0 ∈ x, (((Lit.int .i64 e0.f0.f0).wf = true ∧ ((Lit.int .i64 e0.f0.f1).wf = true ∧ e0.f0.f2.size ≤ maxLen)) ∧ ((e0.f1.length ≤ maxLen ∧ ∀ e1 ∈ e0.f1, ((e1.f0.length ≤ maxLen ∧ ∀ e2 ∈ e1.f0, ((Lit.int .i64 e2.f0).wf = true ∧ ((Lit.int .i64 e2.f1).wf = true ∧ e2.f2.size ≤ maxLen))) ∧ (Lit.int .i64 e1.f1).wf = true)) ∧ (Lit.int .i64 e0.f2).wf = true))) := by
    obtain ⟨fuel, hf⟩ := h1
    exact (op1_slice (sz := 5) (B := fun y : TCached => (((Lit.int .i64 y.f0.f0).wf = true ∧ ((Lit.int .i64 y.f0.f1).wf = true ∧ y.f0.f2.size ≤ maxLen)) ∧ ((y.f1.length ≤ maxLen ∧ ∀ e0 ∈ y.f1, ((e0.f0.length ≤ maxLen ∧ ∀ e1 ∈ e0.f0, ((Lit.int .i64 e1.f0).wf = true ∧ ((Lit.int .i64 e1.f1).wf = true ∧ e1.f2.size ≤ maxLen))) ∧ (Lit.int .i64 e0.f1).wf = true)) ∧ (Lit.int .i64 y.f2).wf = true))) dCached Try.underlying37 op1_46 (by kernel_rfl) (fun _ => rfl) (by decide)).out enc W fuel _ _ hf
  have k2 := h2
  have lt2 : ∀ x ∈ p2, x.block < W.heap.size := by obtain ⟨m, hm⟩ := k2; exact DataW.trod_lt m _ _ _ hm
  obtain ⟨q2a, q2n, q2c, rfl⟩ := okWide_slice Try.underlying22 (hval 2 22 v2 rfl rfl)
  obtain ⟨x2, hK2, b2⟩ : ∃ x : (List TEntry), RepL (oldF W) W ((cL 2 cEntry dEntry) x) [.slice q2a q2n q2c] ∧ (x.length ≤ maxLen ∧ ∀ e0 ∈ x, ((e0.f0.length ≤ maxLen ∧ ∀ e1 ∈ e0.f0, ((Lit.int .i64 e1.f0).wf = true ∧ ((Lit.int .i64 e1.f1).wf = true ∧ e1.f2.size ≤ maxLen))) ∧ (Lit.int .i64 e0.f1).wf = true)) := by
    obtain ⟨fuel, hf⟩ := h2
    exact (op1_slice (sz := 2) (B := fun y : TEntry => ((y.f0.length ≤ maxLen ∧ ∀ e0 ∈ y.f0, ((Lit.int .i64 e0.f0).wf = true ∧ ((Lit.int .i64 e0.f1).wf = true ∧ e0.f2.size ≤ maxLen))) ∧ (Lit.int .i64 y.f1).wf = true)) dEntry Try.underlying22 op1_36 (by kernel_rfl) (fun _ => rfl) (by decide)).out enc W fuel _ _ hf
  clear hA0 hval0 hsz0
  obtain ⟨k, hpure⟩ := CacheForgets_std x0 x1 x2 b0 b1 b2
  refine (Spec.law (erasurelaw30_CacheForgets.spec hpure) (W := W) (by simp only [RelVs, RelV]; exact ⟨_, _, rfl, ⟨cs0, rfl, hK0.fv⟩, ⟨_, _, rfl, hK1.1, ⟨_, _, rfl, hK2.1, rfl⟩⟩⟩)).mono fun e W' ⟨he, bel⟩ => ?_
  subst he
  exact ⟨_, rfl, _, _, _, [], _, [], hW', trodAll_mk1 (shut_bool Try.underlying4 _), (trodAll_cons_mk (Below.trod laidOut (by kernel_rfl) (of_decide_eq_true (by kernel_rfl)) k0 bel lt0) (trodAll_cons_mk (Below.trod laidOut (by kernel_rfl) (of_decide_eq_true (by kernel_rfl)) k1 bel lt1) (trodAll_cons_mk (Below.trod laidOut (by kernel_rfl) (of_decide_eq_true (by kernel_rfl)) k2 bel lt2) trodAll_mk0))), rfl, bel.frame _, fun h => by cases h⟩
theorem over : Rows.cacheForgetsRow.holds Try.pinned (OpenSpec.ofChange Rows.cacheForgetsSpec) :=
  OpenClaim.holds_of_wide 10 Try.f10 rfl rfl rfl rfl rfl rfl rfl ⟨rfl, rfl, rfl, rfl, rfl⟩ rfl rfl rfl rfl rfl (by kernel_rfl) Try.func10 (by kernel_rfl)
    (of_decide_eq_true (by kernel_rfl)) (by unfold Func.isWrapper; first | (rw [if_pos (by decide +kernel)]; kernel_rfl) | (rw [if_neg (by decide +kernel)]; exact ⟨rfl, rfl⟩))
    (fun os started H enc _ => lifted os started H enc)
theorem proved : Rows.CacheForgetsSaid := over
end Go.Proofs.Ytjhnpaenhdbhpab.cacheForgets
namespace Go.Proofs.Ytjhnpaenhdbhpab
theorem cacheForgets_holds : Rows.CacheForgetsSaid := cacheForgets.proved
end Go.Proofs.Ytjhnpaenhdbhpab
