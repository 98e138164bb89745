/- Part of the proof of CacheParts: printed by programs of this repo out of the translation, and by hand. Each theorem's conditions stand in its statement. -/
import Derived.WideShapes
import Derived.ProofKit
import Derived.OpenShut
import Derived.ShutString
import Derived.ChangeOld
import Derived.SizedLaws
import Derived.ChangeSlices
import Derived.Orders
import Derived.Below
import Derived.Laws.AppendOwn
import Derived.Laws.OwnMore
import Derived.KernelRfl
import Derived.Test.YtjhnpaenhdbhpabMCachePartsa
import Derived.Test.YtjhnpaenhdbhpabMCachePartsb
import Derived.Test.YtjhnpaenhdbhpabMCachePartsc
import Derived.Test.YtjhnpaenhdbhpabMCachePartsd
set_option linter.unusedVariables false
set_option linter.unusedSimpArgs false
set_option linter.constructorNameAsVariable false
namespace Go.Proofs.YtjhnpaenhdbhpabV
open Go Go.RowKit
def RepL (F : Nat → Prop) (w : World) : List AV → List Value → Prop
  | [], [] => True
  | a :: l, v :: m => Rep F w a v ∧ RepL F w l m
  | _, _ => False
theorem RepL.len {F : Nat → Prop} {w : World} : ∀ {l : List AV} {m : List Value}, RepL F w l m → l.length = m.length
  | [], [], _ => rfl
  | _ :: _, _ :: _, h => by simp [RepL.len h.2]
  | [], _ :: _, h => h.elim
  | _ :: _, [], h => h.elim
theorem RepL.get {F : Nat → Prop} {w : World} : ∀ {l : List AV} {m : List Value}, RepL F w l m → ∀ (i : Nat) (v : Value), m[i]? = some v → Rep F w (l.getD i .u) v
  | [], [], _, i, v, h => by simp at h
  | a :: l, u :: m, h, i, v, hv => by
    cases i with
    | zero =>
      simp only [List.getElem?_cons_zero, Option.some.injEq] at hv
      subst hv
      exact h.1
    | succ i => simpa using RepL.get h.2 i v (by simpa using hv)
  | [], _ :: _, h, _, _, _ => h.elim
  | _ :: _, [], h, _, _, _ => h.elim
theorem RepL.app {F : Nat → Prop} {w : World} : ∀ {l : List AV} {m : List Value} {l' : List AV} {m' : List Value}, RepL F w l m → RepL F w l' m' → RepL F w (l ++ l') (m ++ m')
  | [], [], _, _, _, k => k
  | _ :: _, _ :: _, _, _, h, k => ⟨h.1, RepL.app h.2 k⟩
  | [], _ :: _, _, _, h, _ => h.elim
  | _ :: _, [], _, _, h, _ => h.elim
theorem RepL.fv {F : Nat → Prop} {w : World} {κ : Nat → Value} {hp : List Ob} : ∀ {l : List AV} {m : List Value}, RepL F w l m → RelVs ⟨F, w, κ, hp⟩ (l.map .p) m
  | [], [], _ => by simp [RelVs]
  | a :: l, v :: m, h => by simp only [List.map_cons, RelVs]; exact ⟨v, m, rfl, by simp only [RelV]; exact h.1, RepL.fv h.2⟩
  | [], _ :: _, h => h.elim
  | _ :: _, [], h => h.elim
abbrev oldF (W : World) : Nat → Prop := fun b => b < W.heap.size
structure Op1 {α : Type} (P : Program) (t : TypeId) (c : α → List AV) (B : α → Prop) : Prop where mk ::
  out : ∀ {H : Type} (enc : TypeId × Value → H) (W : World) (fuel : Nat) (cs : List Value) (y : DataW H × List MemPlace), DataW.trod enc P W 0 (fun _ => true) true fuel t cs = some y → ∃ x, RepL (oldF W) W (c x) cs ∧ B x
theorem op1_int {P : Program} {t : TypeId} {k : IntKind} (ht : P.underlying t = some (.int k)) : Op1 P t (cI k) (fun n => (Lit.int k n).wf = true) := by
  constructor
  intro H enc W fuel cs y h
  obtain ⟨n, rfl, _, hw⟩ := DataW.trod_int ht h
  exact ⟨n, ⟨rfl, trivial⟩, hw⟩
theorem op1_string {P : Program} {t : TypeId} (ht : P.underlying t = some .string) : Op1 P t cS (fun s => s.size ≤ maxLen) := by
  constructor
  intro H enc W fuel cs y h
  obtain ⟨n, rfl, _, hs⟩ := DataW.trod_string ht h
  exact ⟨n, ⟨rfl, trivial⟩, hs⟩
theorem cell_add {W : World} {a : Addr} {n : Nat} {u : Value} (h : W.cell? (a.add n) = some u) : W.cell? ⟨a.block, a.off + n, none⟩ = some u := by
  unfold Addr.add at h
  split at h
  · rename_i hn
    subst hn
    have hs : a.spot = none := by
      unfold World.cell? at h
      split at h
      · split at h
        · cases h
        · rename_i hs; cases hq : a.spot with
          | none => rfl
          | some x => simp [hq] at hs
      · cases h
    cases a
    simp only at hs
    subst hs
    exact h
  · exact h
theorem spot_none {W : World} {a : Addr} {u : Value} (h : W.cell? a = some u) : a = ⟨a.block, a.off, none⟩ := by
  have hs : a.spot = none := by
    unfold World.cell? at h
    split at h
    · split at h
      · cases h
      · rename_i hs; cases hq : a.spot with
        | none => rfl
        | some x => simp [hq] at hs
    · cases h
  cases a
  simp only at hs
  subst hs
  rfl
theorem op1_slice {α : Type} {P : Program} {t e : TypeId} {sz : Nat} {c : α → List AV} (d : α) {B : α → Prop} (ht : P.underlying t = some (.slice e)) (hd : Op1 P e c B) (hc : P.cellsOf e = sz) (hs : ∀ x, (c x).length = sz) (h0 : 0 < sz) : Op1 P t (cL sz c d) (fun xs => xs.length ≤ maxLen ∧ ∀ x ∈ xs, B x) := by
  constructor
  intro H enc W fuel cs y h
  rcases DataW.trod_slice ht h with ⟨rfl, _⟩ | ⟨a, len, cap, elems, rest, n, _, rfl, _, _, hl, hm, hel, hat, _, _⟩
  · exact ⟨[], ⟨⟨none, 0, rfl, Nat.le_refl _, fun _ => rfl, .inl rfl⟩, trivial⟩, by simp [maxLen], fun x hx => by cases hx⟩
  · have key : ∀ i, i < len → ∃ x cs', cs'.length = sz ∧ RepL (oldF W) W (c x) cs' ∧ B x ∧ ∀ j u, cs'[j]? = some u → W.cell? (a.add (i * sz + j)) = some u := by
      intro i hi
      have h1 := hat i hi
      rw [List.getElem?_eq_getElem (by omega)] at h1
      obtain ⟨cs', h2, h3⟩ := Option.bind_eq_some_iff.1 h1
      obtain ⟨x, hk, hb⟩ := hd.out enc W n cs' _ h3
      have hlen : cs'.length = sz := by rw [← hs x, hk.len]
      refine ⟨x, cs', hlen, hk, hb, fun j u hu => ?_⟩
      rw [hc] at h2
      unfold World.cells? at h2
      rw [if_pos (Nat.zero_le _)] at h2
      have h4 := mapM_some_get h2 j j (by
        have := (List.getElem?_eq_some_iff.1 hu).1
        rw [hlen] at this
        simp [this])
      rw [hu] at h4
      have ha : (a.add (i * sz)).add j = a.add (i * sz + j) := by
        unfold Addr.add
        by_cases e1 : i * sz = 0 <;> by_cases e2 : j = 0 <;> simp [e1, e2, Nat.add_assoc]
      rw [ha] at h4
      exact h4
    have key2 : ∀ m, m ≤ len → ∃ xs : List α, xs.length = m ∧ (∀ x ∈ xs, B x) ∧ ∀ i x, xs[i]? = some x → ∃ cs', cs'.length = sz ∧ RepL (oldF W) W (c x) cs' ∧ ∀ j u, cs'[j]? = some u → W.cell? (a.add (i * sz + j)) = some u := by
      intro m
      induction m with
      | zero => intro _; exact ⟨[], rfl, fun x hx => (by cases hx), fun i x hx => by simp at hx⟩
      | succ m ih =>
        intro hm2
        obtain ⟨xs, h1, h2, h3⟩ := ih (by omega)
        obtain ⟨x, c', h4, h5, h6, h7⟩ := key m (by omega)
        refine ⟨xs ++ [x], by simp [h1], fun y hy => ?_, fun i y hy => ?_⟩
        · rcases List.mem_append.1 hy with hy | hy
          · exact h2 y hy
          · rw [List.mem_singleton.1 hy]; exact h6
        · rcases Nat.lt_or_ge i xs.length with hi | hi
          · rw [List.getElem?_append_left hi] at hy; exact h3 i y hy
          · have hi2 : i = xs.length := by
              have := (List.getElem?_eq_some_iff.1 hy).1
              simp at this
              omega
            subst hi2
            simp at hy
            subst hy
            rw [h1]
            exact ⟨c', h4, h5, h7⟩
    obtain ⟨xs, h1, h2, h3⟩ := key2 len (Nat.le_refl _)
    refine ⟨xs, ⟨⟨some a, cap, by rw [h1], by rw [h1]; omega, fun h => (nomatch h), ?_⟩, trivial⟩, by rw [h1]; simp only [maxLen] at hm ⊢; omega, h2⟩
    rcases Nat.eq_zero_or_pos len with hz | hz
    · left; rw [h1, hz]
    · right
      have hcell : ∀ i, i < len → ∀ j, j < sz → ∃ u, W.cell? (a.add (i * sz + j)) = some u ∧ Rep (oldF W) W ((c (xs.getD i d)).getD j .u) u := by
        intro i hi j hj
        have hxi : xs[i]? = some (xs.getD i d) := by rw [List.getD_eq_getElem?_getD, List.getElem?_eq_getElem (by omega)]; rfl
        obtain ⟨cs', k1, k2, k3⟩ := h3 i _ hxi
        have hcj : cs'[j]? = some (cs'[j]'(by omega)) := List.getElem?_eq_getElem (by omega)
        exact ⟨_, k3 j _ hcj, k2.get j _ hcj⟩
      obtain ⟨u0, hu0, _⟩ := hcell 0 hz 0 h0
      have ha0 : a.add (0 * sz + 0) = a := by simp [Addr.add]
      rw [ha0] at hu0
      refine ⟨a.block, a.off, by rw [← spot_none hu0], World.block_lt_of_cell? W a hu0, fun i hi j hj => ?_⟩
      rw [h1] at hi
      obtain ⟨u, k1, k2⟩ := hcell i hi j hj
      exact ⟨u, cell_add k1, k2⟩
structure OpFs {α : Type} (P : Program) (fs : List Field) (off sz : Nat) (c : α → List AV) (B : α → Prop) : Prop where mk ::
  out : ∀ {H : Type} (enc : TypeId × Value → H) (W : World) (fuel : Nat) (cs : List Value) (ys : List (DataW H × List MemPlace)), cs.length = off + sz → ys.length = fs.length →
    (∀ (i : Nat) (f : Field), fs[i]? = some f → DataW.trod enc P W 0 (fun _ => true) true fuel f.type ((cs.drop f.offset).take (P.cellsOf f.type)) = ys[i]?) → ∃ x, RepL (oldF W) W (c x) (cs.drop off) ∧ B x
theorem opFs_one {α : Type} {P : Program} {f : Field} {off sz : Nat} {c : α → List AV} {B : α → Prop} (ho : f.offset = off) (hc : P.cellsOf f.type = sz) (hd : Op1 P f.type c B) : OpFs P [f] off sz c B := by
  constructor
  intro H enc W fuel cs ys hl hy h
  have h0 := h 0 f rfl
  rw [List.getElem?_eq_getElem (by rw [hy]; exact Nat.zero_lt_one), ho, hc, List.take_of_length_le (by rw [List.length_drop]; omega)] at h0
  exact hd.out enc W fuel _ _ h0
theorem opFs_cons {α β : Type} {P : Program} {f : Field} {fs : List Field} {off sa sb : Nat} {a : α → List AV} {b : β → List AV} {Ba : α → Prop} {Bb : β → Prop} (ho : f.offset = off) (hc : P.cellsOf f.type = sa) (hd : Op1 P f.type a Ba) (hs : OpFs P fs (off + sa) sb b Bb) :
    OpFs P (f :: fs) off (sa + sb) (fun x : α × β => a x.1 ++ b x.2) (fun x => Ba x.1 ∧ Bb x.2) := by
  constructor
  intro H enc W fuel cs ys hl hy h
  cases ys with
  | nil => simp at hy
  | cons y ys =>
    have h0 := h 0 f rfl
    rw [ho, hc] at h0
    obtain ⟨x, hx, hbx⟩ := hd.out enc W fuel _ _ h0
    obtain ⟨z, hz, hbz⟩ := hs.out enc W fuel cs ys (by omega) (by simpa using hy) (fun i g hg => h (i + 1) g hg)
    refine ⟨(x, z), ?_, hbx, hbz⟩
    have e : cs.drop off = (cs.drop off).take sa ++ cs.drop (off + sa) := by rw [← List.drop_drop, List.take_append_drop]
    rw [e]
    exact hx.app hz
theorem op1_struct {α β : Type} {P : Program} {t : TypeId} {fs : Array Field} {sz : Nat} {c : β → List AV} {B : β → Prop} (c' : α → List AV) (B' : α → Prop) (g : β → α) (hc' : ∀ y, c' (g y) = c y) (hB : ∀ y, B y → B' (g y)) (ht : P.underlying t = some (.struct fs)) (hc : P.cellsOf t = sz) (hs : OpFs P fs.toList 0 sz c B) :
    Op1 P t c' B' := by
  constructor
  intro H enc W fuel cs y h
  obtain ⟨xs, n, _, _, hl, hx, hi⟩ := DataW.trod_struct ht h
  obtain ⟨x, hk, hb⟩ := hs.out enc W n cs xs (by rw [hl, hc]; omega) (by rw [hx]; simp) (fun i f hf => hi i f (by simpa using hf))
  refine ⟨g x, ?_, hB x hb⟩
  rw [hc']
  simpa using hk
theorem chg_below {w w' : World} (h : Chg (fun _ => False) w w') : Below w.heap.size w w' := ⟨h.os, h.tape, h.output, h.size, fun k hk => h.block k hk (fun h => h)⟩
theorem Spec.law {P : Program} {f : FuncId} {args : List FV} (h : Spec P f args (.p (.bool true)) []) {W : World} {vs : Array Value} (hv : RelVs ⟨oldF W, W, fun _ => undef, []⟩ args vs.toList) : Calls P f vs W fun e W' => e = .returned (.bool true) ∧ Below W.heap.size W W' := by
  refine (h W (oldF W) (fun _ => undef) vs (fun _ h => h) hv).mono fun e W' ⟨v, F', κ', he, hI, hr⟩ => ⟨?_, chg_below hI.chg⟩
  simp only [RelV, Rep] at hr
  rw [he, hr]
end Go.Proofs.YtjhnpaenhdbhpabV
