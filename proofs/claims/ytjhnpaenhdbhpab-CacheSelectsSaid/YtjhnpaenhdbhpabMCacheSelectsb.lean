/- Part of the proof of CacheSelects: printed by programs of this repo out of the translation, and by hand. Each theorem's conditions stand in its statement. -/
import Derived.Orders
import Derived.Below
import Derived.Laws.AppendOwn
import Derived.Laws.OwnMore
import Derived.KernelRfl
import Derived.Test.YtjhnpaenhdbhpabProg
import Derived.Test.YtjhnpaenhdbhpabMCacheSelectsa
set_option linter.unusedVariables false
set_option linter.unusedSimpArgs false
set_option linter.constructorNameAsVariable false
namespace Go.Proofs.YtjhnpaenhdbhpabV
open Go Go.RowKit
mutual
def FV.reo (ρ : Nat → Option (Nat × Option Nat)) : FV → FV
  | .u => .u
  | .und => .und
  | .nil => .nil
  | .p a => .p a
  | .agg cs => .agg (reos ρ cs)
  | .sref id e sz n => match ρ id with
    | some (j, some m) => .sref j e sz m
    | some (j, none) => .sref j e sz n
    | none => .u
  | .ssub id e sz lo n => match ρ id with
    | some (j, _) => .ssub j e sz lo n
    | none => .u
  | .ptr id i j => match ρ id with
    | some (k, _) => .ptr k i j
    | none => .u
  | .vptr m f => .vptr m f
  | .fn f cs => .fn f (reos ρ cs)
  | .tup us => .tup (reos ρ us)
def reos (ρ : Nat → Option (Nat × Option Nat)) : List FV → List FV
  | [] => []
  | x :: xs => x.reo ρ :: reos ρ xs
end
def obN : Ob → Option Nat
  | .arr _ _ _ n _ => some n
  | _ => none
def Ob.reo (ρ : Nat → Option (Nat × Option Nat)) : Ob → Ob
  | .box cs => .box (reos ρ cs)
  | o => o
structure Ro (ρ : Nat → Option (Nat × Option Nat)) (c c' : Cx) : Prop where
  F : c'.F = c.F
  w : c'.w = c.w
  o : ∀ id j m, ρ id = some (j, m) → look c'.hp j = (look c.hp id).reo ρ ∧ c'.κ j = c.κ id ∧ m = obN (look c.hp id)
mutual
theorem RelV.reo {ρ : Nat → Option (Nat × Option Nat)} {c c' : Cx} (h : Ro ρ c c') : ∀ (x : FV) (v : Value), RelV c x v → RelV c' (x.reo ρ) v
  | .u, v, _ => by simp [FV.reo, RelV]
  | .und, v, r => by simpa [FV.reo, RelV] using r
  | .nil, v, r => by simpa [FV.reo, RelV] using r
  | .p a, v, r => by
    simp only [FV.reo, RelV] at r ⊢
    rw [h.F, h.w]
    exact r
  | .agg cs, v, r => by
    simp only [FV.reo, RelV] at r ⊢
    obtain ⟨vs, hv, hr⟩ := r
    exact ⟨vs, hv, RelVs.reo h cs _ hr⟩
  | .sref id e sz n, v, r => by
    simp only [FV.reo]
    cases hρ : ρ id with
    | none => simp [RelV]
    | some jm =>
      obtain ⟨j, m⟩ := jm
      obtain ⟨h1, h2, h3⟩ := h.o id j m hρ
      simp only [RelV] at r
      have hr := r.2
      have hcase : RefS (look c'.hp j) (c'.κ j) e sz n v := by
        rw [h1, h2]
        cases ho : look c.hp id <;> rw [ho] at hr <;> first | exact hr | trivial
      cases m with
      | none => simp only [RelV]; exact ⟨r.1, hcase⟩
      | some m =>
        have hn : m = n := by
          cases ho : look c.hp id with
          | arr own e1 sz1 n1 f =>
            rw [ho] at hr h3
            simp only [obN, Option.some.injEq] at h3
            exact h3.trans hr.2.2.1
          | _ => rw [ho] at h3; simp [obN] at h3
        subst hn
        simp only [RelV]
        exact ⟨r.1, hcase⟩
  | .ssub id e sz lo n, v, r => by
    simp only [FV.reo]
    cases hρ : ρ id with
    | none => simp [RelV]
    | some km =>
      obtain ⟨k, m⟩ := km
      simp only [RelV] at r ⊢
      refine ⟨r.1, ?_⟩
      have hr := r.2
      obtain ⟨h1, h2, _⟩ := h.o id k m hρ
      rw [h1, h2]
      cases ho : look c.hp id <;> rw [ho] at hr <;> first | exact hr | trivial
  | .ptr id i j, v, r => by
    simp only [FV.reo]
    cases hρ : ρ id with
    | none => simp [RelV]
    | some km =>
      obtain ⟨k, m⟩ := km
      simp only [RelV] at r ⊢
      obtain ⟨a, hv, hr⟩ := r
      refine ⟨a, hv, ?_⟩
      obtain ⟨h1, h2, _⟩ := h.o id k m hρ
      rw [h1, h2]
      cases ho : look c.hp id <;> rw [ho] at hr <;> first | exact hr | trivial
  | .vptr m f, v, r => by
    simp only [FV.reo, RelV] at r ⊢
    rw [h.F, h.w]
    exact r
  | .fn f caps, v, r => by
    simp only [FV.reo, RelV] at r ⊢
    obtain ⟨vs, hv, hr⟩ := r
    exact ⟨vs, hv, RelVs.reo h caps _ hr⟩
  | .tup us, v, r => by
    simp only [FV.reo, RelV] at r ⊢
    obtain ⟨vs, hv, hr⟩ := r
    exact ⟨vs, hv, RelVs.reo h us _ hr⟩
theorem RelVs.reo {ρ : Nat → Option (Nat × Option Nat)} {c c' : Cx} (h : Ro ρ c c') : ∀ (xs : List FV) (vs : List Value), RelVs c xs vs → RelVs c' (reos ρ xs) vs
  | [], vs, r => by simpa [reos, RelVs] using r
  | x :: xs, vs, r => by
    simp only [reos, RelVs] at r ⊢
    obtain ⟨v, vs', hv, h1, h2⟩ := r
    exact ⟨v, vs', hv, RelV.reo h x v h1, RelVs.reo h xs vs' h2⟩
end
theorem RelO.reo {ρ : Nat → Option (Nat × Option Nat)} {c c' : Cx} (h : Ro ρ c c') {v : Value} {o : Ob} (r : RelO c v o) : RelO c' v (o.reo ρ) := by
  cases o with
  | free => trivial
  | dead => trivial
  | arr own e sz n f =>
    obtain ⟨h0, xs, h1, h2, h3, h4⟩ := r
    exact ⟨h0, xs, by rw [h.w]; exact h1, fun i hi j hj => by rw [h.w, h.F]; exact h2 i hi j hj, h3, fun b hb => by rw [h.F]; exact h4 b hb⟩
  | box cs =>
    obtain ⟨b, C, t, h1, h2, h3, h4, h5⟩ := r
    exact ⟨b, C, t, h1, by rw [h.w]; exact h2, by rw [h.F]; exact h3, h4, RelVs.reo h _ _ h5⟩
theorem mut_reo (ρ : Nat → Option (Nat × Option Nat)) (o : Ob) : (o.reo ρ).mut = o.mut := by cases o <;> rfl
def idxOf (id : Nat) : List Nat → Nat → Option Nat
  | [], _ => none
  | x :: xs, k => if x = id then some k else idxOf id xs (k + 1)
theorem idxOf_spec {id : Nat} : ∀ (l : List Nat) (k j : Nat), idxOf id l k = some j → k ≤ j ∧ l[j - k]? = some id
  | [], k, j, h => by simp [idxOf] at h
  | x :: xs, k, j, h => by
    simp only [idxOf] at h
    split at h
    · rename_i e
      simp only [Option.some.injEq] at h
      subst h e
      simp
    · obtain ⟨h1, h2⟩ := idxOf_spec xs (k + 1) j h
      refine ⟨by omega, ?_⟩
      rw [show j - k = (j - (k + 1)) + 1 from by omega]
      simpa using h2
def nodupB : List Nat → Bool
  | [] => true
  | x :: xs => !xs.contains x && nodupB xs
theorem nodupB_spec : ∀ (l : List Nat), nodupB l = true → ∀ (i j x : Nat), l[i]? = some x → l[j]? = some x → i = j
  | [], _, i, j, x, h, _ => by simp at h
  | y :: l, h, i, j, x, h1, h2 => by
    simp only [nodupB, Bool.and_eq_true, Bool.not_eq_true', List.contains_eq_mem, decide_eq_false_iff_not] at h
    cases i with
    | zero =>
      cases j with
      | zero => rfl
      | succ j =>
        simp only [List.getElem?_cons_zero, Option.some.injEq] at h1
        subst h1
        exact absurd (List.mem_of_getElem? (by simpa using h2)) h.1
    | succ i =>
      cases j with
      | zero =>
        simp only [List.getElem?_cons_zero, Option.some.injEq] at h2
        subst h2
        exact absurd (List.mem_of_getElem? (by simpa using h1)) h.1
      | succ j => rw [nodupB_spec l h.2 i j x (by simpa using h1) (by simpa using h2)]
def addIds (acc : List Nat) : List Nat → List Nat
  | [] => acc
  | x :: xs => addIds (if acc.contains x then acc else acc ++ [x]) xs
def refsDeep : FV → List Nat
  | .fn _ cs => cs.flatMap refs1
  | .tup us => us.flatMap refs1
  | x => refsF x
def obRefs : Ob → List Nat
  | .box cs => cs.flatMap refsDeep
  | _ => []
def keepFr (keep : List Tmp) : List FV → Nat → List FV
  | [], _ => []
  | x :: xs, t => (if keep.contains t then x else .u) :: keepFr keep xs (t + 1)
def orderOf (hp : List Ob) (fr : List FV) : List Nat :=
  let o1 := addIds [] (fr.flatMap refsDeep)
  let o2 := addIds o1 (o1.flatMap fun id => obRefs (look hp id))
  addIds o2 (o2.flatMap fun id => obRefs (look hp id))
def rhoOf (hp : List Ob) (order : List Nat) (id : Nat) : Option (Nat × Option Nat) :=
  match idxOf id order 0 with
  | some j => some (j, obN (look hp id))
  | none => none
def canon (keep : List Tmp) (st : St) : St :=
  let fr := keepFr keep st.fr 0
  let order := orderOf st.hp fr
  if nodupB order then
    ⟨reos (rhoOf st.hp order) fr, order.map fun id => (look st.hp id).reo (rhoOf st.hp order)⟩
  else st
theorem keepFr_ok {c : Cx} {keep : List Tmp} : ∀ (fr : List FV) (vs : List Value) (t : Nat), RelVs c fr vs → RelVs c (keepFr keep fr t) vs
  | [], vs, t, h => by simpa [keepFr] using h
  | x :: xs, vs, t, h => by
    simp only [keepFr, RelVs] at h ⊢
    obtain ⟨v, vs', hv, h1, h2⟩ := h
    refine ⟨v, vs', hv, ?_, keepFr_ok xs vs' (t + 1) h2⟩
    split
    · exact h1
    · simp [RelV]
theorem canon_ok (keep : List Tmp) (st : St) : StLe st (canon keep st) := by
  intro E a w hr
  unfold canon
  dsimp only
  split
  case isFalse => exact hr
  rename_i hnd
  obtain ⟨hd, c, rfl, hhp, hi, hf⟩ := hr
  obtain ⟨order, ho⟩ : ∃ order, orderOf st.hp (keepFr keep st.fr 0) = order := ⟨_, rfl⟩
  rw [ho] at hnd ⊢
  have hlook : ∀ j, look (order.map fun id => (look st.hp id).reo (rhoOf st.hp order)) j = match order[j]? with | some id => (look st.hp id).reo (rhoOf st.hp order) | none => .free := by
    intro j
    unfold look
    rw [List.getD_eq_getElem?_getD, List.getElem?_map]
    cases order[j]? <;> rfl
  have hro : Ro (rhoOf st.hp order) c ⟨c.F, c.w, fun j => c.κ (order.getD j 0), order.map fun id => (look st.hp id).reo (rhoOf st.hp order)⟩ := by
    refine ⟨rfl, rfl, fun id j m hj => ?_⟩
    obtain ⟨hj2, rfl⟩ : idxOf id order 0 = some j ∧ m = obN (look st.hp id) := by
      unfold rhoOf at hj
      split at hj
      · rename_i j' hj'
        simp only [Option.some.injEq, Prod.mk.injEq] at hj
        obtain ⟨rfl, rfl⟩ := hj
        exact ⟨hj', rfl⟩
      · cases hj
    obtain ⟨_, h1⟩ := idxOf_spec order 0 j hj2
    rw [Nat.sub_zero] at h1
    refine ⟨?_, ?_, by rw [hhp]⟩
    · show look (order.map _) j = _
      rw [hlook, h1, hhp]
    · show c.κ (order.getD j 0) = c.κ id
      rw [List.getD_eq_getElem?_getD, h1]; rfl
  have hm : ∀ j, (look (order.map fun id => (look st.hp id).reo (rhoOf st.hp order)) j).mut = true → ∃ id, order[j]? = some id ∧ (look c.hp id).mut = true ∧ c.κ (order.getD j 0) = c.κ id := by
    intro j hj
    rw [hlook] at hj
    cases hq : order[j]? with
    | none => rw [hq] at hj; simp [Ob.mut] at hj
    | some id =>
      rw [hq] at hj
      simp only [mut_reo] at hj
      exact ⟨id, rfl, by rw [hhp]; exact hj, by rw [List.getD_eq_getElem?_getD, hq]; rfl⟩
  refine ⟨hd, ⟨c.F, c.w, fun j => c.κ (order.getD j 0), order.map fun id => (look st.hp id).reo (rhoOf st.hp order)⟩, rfl, rfl, ⟨hi.chg, hi.f0, hi.f1, hi.lt, fun j => ?_, fun i j b h1 h2 h3 h4 => ?_, fun i b h1 h2 => ?_⟩, RelVs.reo hro _ _ (keepFr_ok _ _ 0 hf)⟩
  · show RelO _ (c.κ (order.getD j 0)) (look (order.map _) j)
    rw [hlook]
    cases hq : order[j]? with
    | none => trivial
    | some id =>
      have e : c.κ (order.getD j 0) = c.κ id := by rw [List.getD_eq_getElem?_getD, hq]; rfl
      rw [e]
      have := RelO.reo hro (hi.objs id)
      rw [hhp] at this
      exact this
  · obtain ⟨x, hx, hx1, hx2⟩ := hm i h1
    obtain ⟨y, hy, hy1, hy2⟩ := hm j h2
    have h3' : blk (c.κ (order.getD i 0)) = some b := h3
    have h4' : blk (c.κ (order.getD j 0)) = some b := h4
    rw [hx2] at h3'
    rw [hy2] at h4'
    have := hi.inj x y b hx1 hy1 h3' h4'
    subst this
    exact nodupB_spec order hnd i j x hx hy
  · obtain ⟨x, hx, hx1, hx2⟩ := hm i h1
    have h2' : blk (c.κ (order.getD i 0)) = some b := h2
    rw [hx2] at h2'
    exact hi.own x b hx1 h2'
inductive Ac where
  | n (k : Nat)
  | r (hs : List (Nat × Hn))
  | k (keep : List Tmp)
  | f (t : Tmp)
def freezeAt (t : Tmp) (st : St) : St :=
  match st.fr[t]? with
  | some (.sref id _ _ _) => match look st.hp id with
    | .arr _ e sz n f => ⟨st.fr.set t (.p (.sl sz n f)), st.hp.set id (.arr false e sz n f)⟩
    | _ => st
  | _ => st
theorem freezeAt_ok (t : Tmp) (st : St) : StLe st (freezeAt t st) := by
  intro E a w hr
  unfold freezeAt
  split
  case h_2 => exact hr
  rename_i id e0 sz0 n0 hq
  split
  case h_2 => exact hr
  rename_i own e sz n f ho
  obtain ⟨hd, c, rfl, hhp, hi, hf⟩ := hr
  obtain ⟨F', h1, h2, h3⟩ := freeze_ok hi (id := id) (by rw [hhp]; exact ho)
  have hlt : t < st.fr.length := (List.getElem?_eq_some_iff.1 hq).1
  obtain ⟨v, hv1, hv2⟩ := hf.get t hlt
  have hv3 : st.fr[t] = .sref id e0 sz0 n0 := (List.getElem?_eq_some_iff.1 hq).2
  rw [hv3] at hv2
  simp only [RelV] at hv2
  have hk : v = c.κ id := by
    have := hv2.2
    rw [hhp, ho] at this
    exact this.2.2.2
  refine ⟨hd, ⟨F', c.w, c.κ, c.hp.set id (.arr false e sz n f)⟩, rfl, by rw [← hhp], h1, ?_⟩
  have hset := RelVs.set (c := ⟨F', c.w, c.κ, c.hp.set id (.arr false e sz n f)⟩) (x := .p (.sl sz n f)) (v := v) (by simp only [RelV]; rw [hk]; exact h3) (RelVs.keep h2 _ _ hf) t
  have hself : a.tmps.toList.set t v = a.tmps.toList := by
    apply List.ext_getElem?
    intro j
    rw [List.getElem?_set]
    split
    · rename_i e; subst e; rw [if_pos (by have := hf.length; rw [this]; exact hlt), hv1]
    · rfl
  rw [hself] at hset
  exact hset
def stepsF (P : Program) : Nat → List Item → St → List Prop → Option (List Item × St × List Prop)
  | 0, todo, st, obs => some (todo, st, obs)
  | n + 1, todo, st, obs => match stepF P [] todo st with
    | some (todo', st', o) => stepsF P n todo' st' (obs ++ o)
    | none => none
def exec (P : Program) : List Ac → List Item → St → List Prop → Option (List Item × St × List Prop)
  | [], todo, st, obs => some (todo, st, obs)
  | .n k :: ays, todo, st, obs => match stepsF P k todo st obs with
    | some (todo', st', obs') => exec P ays todo' st' obs'
    | none => none
  | .r hs :: ays, todo, st, obs => match stepF P hs todo st with
    | some (todo', st', o) => exec P ays todo' st' (obs ++ o)
    | none => none
  | .k keep :: ays, todo, st, obs => exec P ays todo (canon keep st) obs
  | .f t :: ays, todo, st, obs => exec P ays todo (freezeAt t st) obs
theorem stepsF_run {P : Program} {fn : Func} {r : FV} {H : List Ob} : ∀ (n : Nat) (todo todo' : List Item) (st st' : St) (obs obs' : List Prop), stepsF P n todo st obs = some (todo', st', obs') → (∀ q ∈ obs', q) → Run P fn todo' st' r H → Run P fn todo st r H ∧ ∀ q ∈ obs, q
  | 0, todo, todo', st, st', obs, obs', h, hob, k => by
    simp only [stepsF, Option.some.injEq, Prod.mk.injEq] at h
    obtain ⟨rfl, rfl, rfl⟩ := h
    exact ⟨k, hob⟩
  | n + 1, todo, todo', st, st', obs, obs', h, hob, k => by
    simp only [stepsF] at h
    split at h
    case h_2 => cases h
    rename_i t1 s1 o hs
    obtain ⟨h1, h2⟩ := stepsF_run n t1 todo' s1 st' (obs ++ o) obs' h hob k
    exact ⟨.step [] hs (fun q hq => h2 q (by simp [hq])) h1, fun q hq => h2 q (by simp [hq])⟩
theorem exec_run {P : Program} {fn : Func} {r : FV} {H : List Ob} : ∀ (ays : List Ac) (todo todo' : List Item) (st st' : St) (obs obs' : List Prop), exec P ays todo st obs = some (todo', st', obs') → (∀ q ∈ obs', q) → Run P fn todo' st' r H → Run P fn todo st r H ∧ ∀ q ∈ obs, q
  | [], todo, todo', st, st', obs, obs', h, hob, k => by
    simp only [exec, Option.some.injEq, Prod.mk.injEq] at h
    obtain ⟨rfl, rfl, rfl⟩ := h
    exact ⟨k, hob⟩
  | .n m :: ays, todo, todo', st, st', obs, obs', h, hob, k => by
    simp only [exec] at h
    split at h
    case h_2 => cases h
    rename_i t1 s1 o hs
    obtain ⟨h1, h2⟩ := exec_run ays t1 todo' s1 st' o obs' h hob k
    exact stepsF_run m todo t1 st s1 obs o hs h2 h1
  | .r hs :: ays, todo, todo', st, st', obs, obs', h, hob, k => by
    simp only [exec] at h
    split at h
    case h_2 => cases h
    rename_i t1 s1 o hst
    obtain ⟨h1, h2⟩ := exec_run ays t1 todo' s1 st' (obs ++ o) obs' h hob k
    exact ⟨.step hs hst (fun q hq => h2 q (by simp [hq])) h1, fun q hq => h2 q (by simp [hq])⟩
  | .k keep :: ays, todo, todo', st, st', obs, obs', h, hob, k => by
    simp only [exec] at h
    obtain ⟨h1, h2⟩ := exec_run ays todo todo' (canon keep st) st' obs obs' h hob k
    exact ⟨.conv (canon_ok keep st) h1, h2⟩
  | .f t :: ays, todo, todo', st, st', obs, obs', h, hob, k => by
    simp only [exec] at h
    obtain ⟨h1, h2⟩ := exec_run ays todo todo' (freezeAt t st) st' obs obs' h hob k
    exact ⟨.conv (freezeAt_ok t st) h1, h2⟩
structure Obs (l : List Prop) : Prop where mk ::
  h : AllP l
theorem Obs.of {α : Prop} {l : List Prop} (h : α = AllP l) (x : α) : Obs l := ⟨h ▸ x⟩
theorem Obs.tt {l : List Prop} (h : l = []) : Obs l := ⟨by rw [h]; trivial⟩
def obsF (P : Program) (ays : List Ac) (todo : List Item) (st : St) : List Prop :=
  match exec P ays todo st [] with
  | some x => x.2.2
  | none => []
def endF (P : Program) (ays : List Ac) (todo : List Item) (st : St) : Option (List Item × St) :=
  match exec P ays todo st [] with
  | some x => some (x.1, x.2.1)
  | none => none
theorem Run.go {P : Program} {fn : Func} {r : FV} {H : List Ob} {todo todo' : List Item} {st st' : St} (ays : List Ac) (h : endF P ays todo st = some (todo', st')) (hob : Obs (obsF P ays todo st)) (k : Run P fn todo' st' r H) : Run P fn todo st r H := by
  unfold endF at h
  replace hob := hob.h
  unfold obsF at hob
  cases he : exec P ays todo st [] with
  | none => simp [he] at h
  | some x =>
    simp only [he, Option.some.injEq, Prod.mk.injEq] at h hob
    obtain ⟨rfl, rfl⟩ := h
    exact (exec_run ays todo _ st _ [] _ he hob.all k).1
def closeR (r : FV) (H : List Ob) : Option (FV × List Ob) :=
  match canon [0] ⟨[r], H⟩ with
  | ⟨[r'], H'⟩ => some (r', H')
  | _ => none
theorem closeR_ok {E : En} {F : Nat → Prop} {w : World} {κ : Nat → Value} {r r' : FV} {H H' : List Ob} {v : Value} (h : closeR r H = some (r', H')) (hi : Inv E ⟨F, w, κ, H⟩) (hr : RelV ⟨F, w, κ, H⟩ r v) : ∃ F' κ', Inv E ⟨F', w, κ', H'⟩ ∧ RelV ⟨F', w, κ', H'⟩ r' v := by
  unfold closeR at h
  split at h
  case h_2 => cases h
  rename_i r1 H1 he
  simp only [Option.some.injEq, Prod.mk.injEq] at h
  obtain ⟨rfl, rfl⟩ := h
  obtain ⟨_, c, hw, hhp, hi', hf⟩ := canon_ok [0] ⟨[r], H⟩ E { tmps := #[v], defers := [] } w ⟨rfl, ⟨F, w, κ, H⟩, rfl, rfl, hi, by simp only [RelVs]; exact ⟨v, [], rfl, hr, rfl⟩⟩
  rw [he] at hhp hf
  obtain ⟨F', w', κ', hp'⟩ := c
  simp only at hw hhp hf
  subst hw hhp
  simp only [RelVs] at hf
  obtain ⟨v', vs, hvv, h1, h2⟩ := hf
  simp only [List.cons.injEq] at hvv
  obtain ⟨rfl, _⟩ := hvv
  exact ⟨F', κ', hi', h1⟩
def plainR : FV → List Ob → Option (FV × List Ob)
  | .agg cs, hp => match toAVs (look hp) cs with
    | some ays => some (.agg (ays.map .p), setUps hp (frzs (look hp) cs))
    | none => none
  | x, hp => some (x, hp)
def plainRs : List FV → List Ob → Option (List FV × List Ob)
  | [], hp => some ([], hp)
  | x :: xs, hp => match plainR x hp with
    | none => none
    | some (y, hp1) => match plainRs xs hp1 with
      | none => none
      | some (ys, hp2) => some (y :: ys, hp2)
def plainT : FV → List Ob → Option (FV × List Ob)
  | .tup us, hp => match plainRs us hp with
    | none => none
    | some (ys, hp') => some (.tup ys, hp')
  | x, hp => plainR x hp
theorem plainR_ok {E : En} {F : Nat → Prop} {w : World} {κ : Nat → Value} {r r' : FV} {H H' : List Ob} {v : Value} (h : plainR r H = some (r', H')) (hi : Inv E ⟨F, w, κ, H⟩) (hr : RelV ⟨F, w, κ, H⟩ r v) :
    ∃ F', Inv E ⟨F', w, κ, H'⟩ ∧ Le ⟨F, w, κ, H⟩ ⟨F', w, κ, H'⟩ ∧ RelV ⟨F', w, κ, H'⟩ r' v := by
  by_cases hx : ∃ cs, r = .agg cs
  · obtain ⟨cs, rfl⟩ := hx
    simp only [plainR] at h
    split at h
    case h_2 => cases h
    rename_i ays has
    simp only [Option.some.injEq, Prod.mk.injEq] at h
    obtain ⟨rfl, rfl⟩ := h
    simp only [RelV] at hr
    obtain ⟨vs, rfl, hvs⟩ := hr
    obtain ⟨F', h1, h2, h3, h4, h5⟩ := frzs_ok (E := E) (look H) cs ays ⟨F, w, κ, H⟩ vs.toList hi (fun id => .inr (.inl rfl)) has hvs
    exact ⟨F', h1, h2, by simp only [RelV]; exact ⟨vs, rfl, relVs_p h4 h5⟩⟩
  · have : r' = r ∧ H' = H := by
      cases r <;> first | exact absurd ⟨_, rfl⟩ hx | (simp only [plainR, Option.some.injEq, Prod.mk.injEq] at h; exact ⟨h.1.symm, h.2.symm⟩)
    obtain ⟨rfl, rfl⟩ := this
    exact ⟨F, hi, Le.refl _, hr⟩
theorem plainRs_ok {E : En} {w : World} {κ : Nat → Value} : ∀ (rs rs' : List FV) (F : Nat → Prop) (H H' : List Ob) (vs : List Value), plainRs rs H = some (rs', H') → Inv E ⟨F, w, κ, H⟩ → RelVs ⟨F, w, κ, H⟩ rs vs →
    ∃ F', Inv E ⟨F', w, κ, H'⟩ ∧ Le ⟨F, w, κ, H⟩ ⟨F', w, κ, H'⟩ ∧ RelVs ⟨F', w, κ, H'⟩ rs' vs
  | [], rs', F, H, H', vs, h, hi, hr => by
    simp only [plainRs, Option.some.injEq, Prod.mk.injEq] at h
    obtain ⟨rfl, rfl⟩ := h
    exact ⟨F, hi, Le.refl _, by simpa [RelVs] using hr⟩
  | x :: xs, rs', F, H, H', vs, h, hi, hr => by
    simp only [plainRs] at h
    split at h
    case h_1 => cases h
    rename_i y hp1 hy
    split at h
    case h_1 => cases h
    rename_i ys hp2 hys
    simp only [Option.some.injEq, Prod.mk.injEq] at h
    obtain ⟨rfl, rfl⟩ := h
    simp only [RelVs] at hr
    obtain ⟨v, vs', rfl, hv, hvs⟩ := hr
    obtain ⟨F1, i1, l1, r1⟩ := plainR_ok hy hi hv
    obtain ⟨F2, i2, l2, r2⟩ := plainRs_ok xs ys F1 hp1 hp2 vs' hys i1 (RelVs.keep l1 _ _ hvs)
    exact ⟨F2, i2, Le.trans l1 l2, by simp only [RelVs]; exact ⟨v, vs', rfl, RelV.keep l2 _ _ r1, r2⟩⟩
theorem plainT_ok {E : En} {F : Nat → Prop} {w : World} {κ : Nat → Value} {r r' : FV} {H H' : List Ob} {v : Value} (h : plainT r H = some (r', H')) (hi : Inv E ⟨F, w, κ, H⟩) (hr : RelV ⟨F, w, κ, H⟩ r v) :
    ∃ F', Inv E ⟨F', w, κ, H'⟩ ∧ RelV ⟨F', w, κ, H'⟩ r' v := by
  by_cases hx : ∃ us, r = .tup us
  · obtain ⟨us, rfl⟩ := hx
    simp only [plainT] at h
    split at h
    case h_1 => cases h
    rename_i ys hp' hys
    simp only [Option.some.injEq, Prod.mk.injEq] at h
    obtain ⟨rfl, rfl⟩ := h
    simp only [RelV] at hr
    obtain ⟨vs, rfl, hvs⟩ := hr
    obtain ⟨F', h1, _, h3⟩ := plainRs_ok us ys F H hp' vs.toList hys hi hvs
    exact ⟨F', h1, by simp only [RelV]; exact ⟨vs, rfl, h3⟩⟩
  · have : plainR r H = some (r', H') := by
      cases r <;> first | exact absurd ⟨_, rfl⟩ hx | exact h
    obtain ⟨F', h1, _, h3⟩ := plainR_ok this hi hr
    exact ⟨F', h1, h3⟩
def RunC (P : Program) (fn : Func) (todo : List Item) (st : St) (r : FV) (H : List Ob) : Prop := ∃ r0 H0, Run P fn todo st r0 H0 ∧ (∃ r1 H1, plainT r0 H0 = some (r1, H1) ∧ closeR r1 H1 = some (r, H))
theorem RunC.go {P : Program} {fn : Func} {r : FV} {H : List Ob} {todo todo' : List Item} {st st' : St} (ays : List Ac) (h : endF P ays todo st = some (todo', st')) (hob : Obs (obsF P ays todo st)) (k : RunC P fn todo' st' r H) : RunC P fn todo st r H := by
  obtain ⟨r0, H0, k1, k2⟩ := k
  exact ⟨r0, H0, Run.go ays h hob k1, k2⟩
def outF (P : Program) (fn : Func) (ays : List Ac) (todo : List Item) (st : St) : Option (FV × List Ob) :=
  match exec P ays todo st [] with
  | some x => if isEnd x.1 then match resF P fn x.2.1 with
      | some r => match plainT r x.2.1.hp with
        | some (r1, H1) => closeR r1 H1
        | none => none
      | none => none
    else none
  | none => none
theorem RunC.out {P : Program} {fn : Func} {r : FV} {H : List Ob} {todo : List Item} {st : St} (ays : List Ac) (h : outF P fn ays todo st = some (r, H)) (hob : Obs (obsF P ays todo st)) : RunC P fn todo st r H := by
  unfold outF at h
  replace hob := hob.h
  unfold obsF at hob
  cases he : exec P ays todo st [] with
  | none => simp [he] at h
  | some x =>
    simp only [he] at h hob
    split at h
    case isFalse => cases h
    rename_i hend
    split at h
    case h_2 => cases h
    rename_i r' hr
    split at h
    case h_2 => cases h
    rename_i r1 H1 hp
    exact ⟨r', _, (exec_run ays todo _ st _ [] _ he hob.all (.done hend hr)).1, r1, H1, hp, h⟩
theorem spec_of {P : Program} (hmix : P.follows .mixedOrders = true) {f : FuncId} {fn : Func} (hfn : P.funcs[f]? = some fn) {body : Code} (hb : fn.body = some body) {args : List FV} {r : FV} {H : List Ob} {todo : List Item} {st : St}
    (ht : ([.code body], (⟨args ++ List.replicate (fn.ntmps - args.length) .u, []⟩ : St)) = (todo, st)) (h : RunC P fn todo st r H) : Spec P f args r H := by
  simp only [Prod.mk.injEq] at ht
  obtain ⟨rfl, rfl⟩ := ht
  obtain ⟨r0, H0, h1, r1, H1, hp, h2⟩ := h
  intro w F κ vs hF hv
  refine (spec_of_run hmix hfn hb h1 w F κ vs hF hv).mono fun e w' ⟨v, F', κ', he, hI, hR⟩ => ?_
  obtain ⟨F1, hI1, hR1⟩ := plainT_ok hp hI hR
  obtain ⟨F2, κ2, h3, h4⟩ := closeR_ok h2 hI1 hR1
  exact ⟨v, F2, κ2, he, h3, h4⟩
def nav : Nat → List Bool → List Item → List Item
  | 0, _, t => t
  | n + 1, bs, t => match t with
    | .inBlock _ :: k => nav n bs k
    | .inLoop c :: k => nav n bs (.code c :: .inLoop c :: k)
    | .code c :: k => match c with
      | .skip => nav n bs k
      | .label _ => nav n bs k
      | .region .. => nav n bs k
      | .seq x y => nav n bs (.code x :: .code y :: k)
      | .cond _ x y => match bs with
        | b :: bs => nav n bs (.code (if b then x else y) :: k)
        | [] => t
      | .block id c => nav n bs (.code c :: .inBlock id :: k)
      | .loop c => nav n bs (.code c :: .inLoop c :: k)
      | .exit id => match exitTo id k with
        | some k' => nav n bs k'
        | none => t
      | _ => t
    | t => t
def bodyOf (fn : Func) : Code := fn.body.getD .skip
def frOf : Nat → Nat → List (Nat × FV) → List FV
  | 0, _, _ => []
  | n + 1, t, [] => .u :: frOf n (t + 1) []
  | n + 1, t, (i, x) :: l => if i = t then x :: frOf n (t + 1) l else .u :: frOf n (t + 1) ((i, x) :: l)
def eL {α : Type} (sz : Nat) (c : α → List AV) (d : α) (xs : List α) : AV := .sl sz xs.length (fun i j => (c (xs.getD i d)).getD j .u)
def oL {α : Type} (own : Bool) (e sz : Nat) (c : α → List AV) (d : α) (xs : List α) : Ob := .arr own e sz xs.length (fun i j => (c (xs.getD i d)).getD j .u)
def cI (k : IntKind) (x : Int) : List AV := [.int k x]
def cS (x : ByteArray) : List AV := [.str x]
def cL {α : Type} (sz : Nat) (c : α → List AV) (d : α) (x : List α) : List AV := [eL sz c d x]
theorem le_nil {α : Type} (e sz : Nat) (c : α → List AV) (d : α) : ObLe (.arr true e sz 0 (fun _ _ => .u)) (oL true e sz c d []) :=
  ⟨rfl, rfl, rfl, rfl, fun i hi => absurd hi (Nat.not_lt_zero _)⟩
theorem le_one {α : Type} (e sz : Nat) (c : α → List AV) (d : α) (x : α) : ObLe (.arr true e sz 1 (fun a b => (c x).getD (a * sz + b) .u)) (oL true e sz c d [x]) := by
  refine ⟨rfl, rfl, rfl, by simp, fun i hi j hj => ?_⟩
  have : i = 0 := by omega
  subst this
  simp
theorem le_app {α : Type} (e sz : Nat) (c : α → List AV) (d : α) (xs ys : List α) : ObLe (.arr true e sz (xs.length + ys.length) (appA xs.length (fun i j => (c (xs.getD i d)).getD j .u) (fun i j => (c (ys.getD i d)).getD j .u))) (oL true e sz c d (xs ++ ys)) := by
  refine ⟨rfl, rfl, rfl, by simp, fun i hi j hj => ?_⟩
  unfold appA
  split
  · rename_i h
    dsimp only
    congr 2
    rw [List.getD_eq_getElem?_getD, List.getD_eq_getElem?_getD, List.getElem?_append_left h]
  · rename_i h
    dsimp only
    congr 2
    rw [List.getD_eq_getElem?_getD, List.getD_eq_getElem?_getD, List.getElem?_append_right (by omega)]
theorem le_set {α : Type} (e sz : Nat) (c : α → List AV) (d : α) (xs : List α) (x : α) (q : Nat) (hs : (c x).length = sz) : ObLe (.arr true e sz xs.length (fun i' j' => if i' = q ∧ 0 ≤ j' ∧ j' < 0 + sz then (c x).getD (j' - 0) .u else (c (xs.getD i' d)).getD j' .u)) (oL true e sz c d (xs.set q x)) := by
  refine ⟨rfl, rfl, rfl, by simp, fun i hi j hj => ?_⟩
  dsimp only
  by_cases h : i = q
  · subst h
    rw [if_pos ⟨rfl, Nat.zero_le _, by omega⟩, Nat.sub_zero]
    congr 2
    simp [List.getD_eq_getElem?_getD, hi]
  · rw [if_neg (fun h' => h h'.1)]
    congr 2
    simp [List.getD_eq_getElem?_getD, List.getElem?_set_ne (Ne.symm h)]
theorem ite_some {α : Type} {c : Prop} [Decidable c] {a : Option α} {r : α} (h : (if c then a else none) = some r) : c ∧ a = some r := by
  split at h
  · exact ⟨‹c›, h⟩
  · cases h
theorem ite_or {α : Type} {c : Prop} [Decidable c] {a b : Option α} {r : α} (h : (if c then a else b) = some r) : (c ∧ a = some r) ∨ (¬ c ∧ b = some r) := by
  split at h
  · exact .inl ⟨‹c›, h⟩
  · exact .inr ⟨‹¬ c›, h⟩
theorem bind_or {α β : Type} {a : Option α} {f : α → Option β} {r : β} (h : a.bind f = some r) : ∃ x, a = some x ∧ f x = some r := Option.bind_eq_some_iff.1 h
theorem nt {b : Bool} (h : ¬ (b = true)) : b = false := by cases b <;> simp_all
theorem ObLe.refl {own : Bool} {e sz n : Nat} {f : Nat → Nat → AV} : ObLe (.arr own e sz n f) (.arr own e sz n f) := ⟨rfl, rfl, rfl, rfl, fun _ _ _ _ => rfl⟩
theorem fle_rfl (x : FV) : FVLe x x := fun _ _ h => h
theorem fle_nil {α : Type} (sz : Nat) (c : α → List AV) (d : α) : FVLe .nil (.p (eL sz c d [])) := by
  intro cx v h
  simp only [RelV] at h ⊢
  exact ⟨none, 0, h, Nat.le_refl _, fun _ => rfl, .inl rfl⟩
theorem fls_nil : FVsLe [] [] := fun _ _ h => h
theorem fls_cons {x y : FV} {xs ys : List FV} (h : FVLe x y) (k : FVsLe xs ys) : FVsLe (x :: xs) (y :: ys) := by
  intro c vs hr
  simp only [RelVs] at hr ⊢
  obtain ⟨v, vs', hv, h1, h2⟩ := hr
  exact ⟨v, vs', hv, h _ _ h1, k _ _ h2⟩
theorem fle_agg {xs ys : List FV} (h : FVsLe xs ys) : FVLe (.agg xs) (.agg ys) := by
  intro c v hr
  simp only [RelV] at hr ⊢
  obtain ⟨vs, hv, h1⟩ := hr
  exact ⟨vs, hv, h _ _ h1⟩
def subL {α : Type} (xs : List α) (l h : Int) : List α := (xs.take h.toNat).drop l.toNat
theorem subL_len {α : Type} {xs : List α} {l h : Int} (hb : 0 ≤ l ∧ l ≤ h ∧ h ≤ (xs.length : Int)) : (subL xs l h).length = h.toNat - l.toNat := by
  rw [subL, List.length_drop, List.length_take]; omega
theorem subL_get {α : Type} {xs : List α} {l h : Int} (d : α) {i : Nat} (hi : i < h.toNat - l.toNat) : (subL xs l h).getD i d = xs.getD (l.toNat + i) d := by
  rw [subL, List.getD_eq_getElem?_getD, List.getD_eq_getElem?_getD, List.getElem?_drop, List.getElem?_take, if_pos (by omega)]
theorem le_appSS {α : Type} (e sz : Nat) (c : α → List AV) (d : α) (xs ys : List α) (h1 l2 h2 : Int) (b1 : 0 ≤ (0 : Int) ∧ 0 ≤ h1 ∧ h1 ≤ (xs.length : Int)) (b2 : 0 ≤ l2 ∧ l2 ≤ h2 ∧ h2 ≤ (ys.length : Int)) :
    ObLe (.arr true e sz ((h1.toNat - (0 : Int).toNat) + (h2.toNat - l2.toNat)) (appA (h1.toNat - (0 : Int).toNat) (fun i j => (c (xs.getD i d)).getD j .u) (fun a b => (c (ys.getD (l2.toNat + a) d)).getD b .u))) (oL true e sz c d (subL xs 0 h1 ++ subL ys l2 h2)) := by
  have e1 := subL_len b1
  have e2 := subL_len b2
  refine ⟨rfl, rfl, rfl, by rw [List.length_append, e1, e2], fun i hi j hj => ?_⟩
  unfold appA
  dsimp only
  split
  · rename_i h
    rw [List.getD_eq_getElem?_getD (l := subL xs 0 h1 ++ subL ys l2 h2), List.getElem?_append_left (by rw [e1]; exact h), ← List.getD_eq_getElem?_getD, subL_get d h]
    simp
  · rename_i h
    rw [List.getD_eq_getElem?_getD (l := subL xs 0 h1 ++ subL ys l2 h2), List.getElem?_append_right (by rw [e1]; omega), ← List.getD_eq_getElem?_getD, e1, subL_get d (by omega)]
def copyL {α : Type} (xs : List α) (l h : Int) (ys : List α) : List α := xs.take l.toNat ++ (ys.take (h.toNat - l.toNat) ++ xs.drop (l.toNat + min ys.length (h.toNat - l.toNat)))
theorem le_copySS {α : Type} (e sz : Nat) (c : α → List AV) (d : α) (xs ys : List α) (l h l2 h2 : Int) (b1 : 0 ≤ l ∧ l ≤ h ∧ h ≤ (xs.length : Int)) (b2 : 0 ≤ l2 ∧ l2 ≤ h2 ∧ h2 ≤ (ys.length : Int)) :
    ObLe (.arr true e sz xs.length (cpA l.toNat (Nat.min (h2.toNat - l2.toNat) (h.toNat - l.toNat)) (fun i j => (c (xs.getD i d)).getD j .u) (fun a b => (c (ys.getD (l2.toNat + a) d)).getD b .u))) (oL true e sz c d (copyL xs l h (subL ys l2 h2))) := by
  have e2 := subL_len b2
  have hmin : Nat.min (h2.toNat - l2.toNat) (h.toNat - l.toNat) = min (h2.toNat - l2.toNat) (h.toNat - l.toNat) := rfl
  have hl1 : (xs.take l.toNat).length = l.toNat := by rw [List.length_take]; omega
  have hl2 : ((subL ys l2 h2).take (h.toNat - l.toNat)).length = min (h2.toNat - l2.toNat) (h.toNat - l.toNat) := by rw [List.length_take, e2]; omega
  refine ⟨rfl, rfl, rfl, ?_, fun i hi j hj => ?_⟩
  · rw [copyL, List.length_append, List.length_append, hl1, hl2, List.length_drop, e2]
    omega
  · unfold cpA
    dsimp only
    rw [hmin]
    rw [List.getD_eq_getElem?_getD (l := copyL xs l h (subL ys l2 h2)), copyL]
    by_cases h1 : i < l.toNat
    · rw [if_neg (by omega), List.getElem?_append_left (by omega), List.getElem?_take, if_pos h1, ← List.getD_eq_getElem?_getD]
    · rw [List.getElem?_append_right (by omega), hl1]
      by_cases h3 : i < l.toNat + min (h2.toNat - l2.toNat) (h.toNat - l.toNat)
      · rw [if_pos ⟨by omega, h3⟩, List.getElem?_append_left (by omega), List.getElem?_take, if_pos (by omega), ← List.getD_eq_getElem?_getD, subL_get d (by omega)]
      · rw [if_neg (by omega), List.getElem?_append_right (by omega), hl2, List.getElem?_drop, e2, ← List.getD_eq_getElem?_getD]
        congr 3
        omega
theorem itp {α : Type} {c : Prop} [Decidable c] {a b : Option α} {r : α} (h : c) (k : a = some r) : (if c then a else b) = some r := by rw [if_pos h]; exact k
theorem itn {α : Type} {c : Prop} [Decidable c] {a b : Option α} {r : α} (h : ¬ c) (k : b = some r) : (if c then a else b) = some r := by rw [if_neg h]; exact k
theorem bnd {α β : Type} {a : Option α} {f : α → Option β} {x : α} {r : β} (h : a = some x) (k : f x = some r) : a.bind f = some r := by rw [h]; exact k
end Go.Proofs.YtjhnpaenhdbhpabV
set_option linter.unusedVariables false
set_option linter.unusedSimpArgs false
set_option maxRecDepth 100000
namespace Go.Proofs.YtjhnpaenhdbhpabV
open Go Go.RowKit
theorem mix : Try.prog.follows .mixedOrders = true := by kernel_rfl
structure TValue where
  f0 : Int
  f1 : Int
  f2 : ByteArray
def dValue : TValue := ⟨(0 : Int), (0 : Int), (⟨#[]⟩ : ByteArray)⟩
def cValue (x : TValue) : List AV := [.int .i64 x.f0, .int .i64 x.f1, .str x.f2]
structure TEntry where
  f0 : (List TValue)
  f1 : Int
def dEntry : TEntry := ⟨([] : List TValue), (0 : Int)⟩
def cEntry (x : TEntry) : List AV := [(eL 3 cValue dValue x.f0), .int .i64 x.f1]
structure TCache where
  f0 : ByteArray
  f1 : ByteArray
  f2 : Int
  f3 : Int
def cCache (x : TCache) : List AV := [.str x.f0, .str x.f1, .int .i64 x.f2, .int .i64 x.f3]
structure TCached where
  f0 : TValue
  f1 : (List TEntry)
  f2 : Int
def dCached : TCached := ⟨dValue, ([] : List TEntry), (0 : Int)⟩
def cCached (x : TCached) : List AV := [.int .i64 x.f0.f0, .int .i64 x.f0.f1, .str x.f0.f2, (eL 2 cEntry dEntry x.f1), .int .i64 x.f2]
end Go.Proofs.YtjhnpaenhdbhpabV
set_option linter.unusedVariables false
set_option linter.unusedSimpArgs false
set_option maxRecDepth 100000
namespace Go.Proofs.YtjhnpaenhdbhpabV
open Go Go.RowKit
noncomputable def erasurelaw30_short.p1  : Nat → (List TEntry) → Int → Option Bool
  | 0, _, _ => none
  | k + 1, l0, i3 => if (decide (i3 < ((l0).length : Int))) = true then (if 0 ≤ i3 ∧ i3 < ((l0).length : Int) then (if (decide ((((l0.getD i3.toNat dEntry).f0).length : Int) > 20)) = true then (some false) else (erasurelaw30_short.p1 k l0 (IntKind.i64.wrap (i3 + 1)))) else none) else (some (decide (((l0).length : Int) ≤ 40)))
noncomputable def erasurelaw30_short  (k : Nat) (l0 : (List TEntry)) : Option Bool := erasurelaw30_short.p1 k l0 0
noncomputable def erasurelaw30_short.t : List Item := [.code (bodyOf Try.f11)]
noncomputable def erasurelaw30_short.s (l0 : (List TEntry)) : St := ⟨frOf Try.f11.ntmps 0 [(0, .p (eL 2 cEntry dEntry l0))], []⟩
noncomputable def erasurelaw30_short.p1.t : List Item := nav 7 [] erasurelaw30_short.t
noncomputable def erasurelaw30_short.p1.s (l0 : (List TEntry)) (i3 : Int) : St := ⟨frOf Try.f11.ntmps 0 [(0, .p (eL 2 cEntry dEntry l0)), (3, .p (.int .i64 i3))], []⟩
theorem erasurelaw30_short.p1.run   : ∀ (k : Nat) (l0 : (List TEntry)) (i3 : Int) (r : Bool), erasurelaw30_short.p1 k l0 i3 = some r → RunC Try.prog Try.f11 erasurelaw30_short.p1.t (erasurelaw30_short.p1.s l0 i3) (.p (.bool r)) [] := by
  intro k
  induction k with
  | zero => intro l0 i3 r h; simp [erasurelaw30_short.p1] at h
  | succ k ih =>
    intro l0 i3 r h
    rw [erasurelaw30_short.p1] at h
    rcases ite_or h with ⟨g_1, h⟩ | ⟨g_1, h⟩
    · obtain ⟨g_2, h⟩ := ite_some h
      rcases ite_or h with ⟨g_3, h⟩ | ⟨g_3, h⟩
      · obtain rfl := Option.some.inj h
        exact RunC.out [.n 2, .r [(3, .dec true)], .n 5, .r [(6, .dec true)], .n 3] (by kernel_rfl) (Obs.of (by kernel_rfl) (And.intro g_1 (And.intro g_2 g_3)))
      · exact RunC.go [.n 2, .r [(3, .dec true)], .n 5, .r [(6, .dec false)], .n 5, .k [0, 3]] (by kernel_rfl) (Obs.of (by kernel_rfl) (And.intro g_1 (And.intro g_2 (nt g_3)))) (ih _ _ r h)
    · obtain rfl := Option.some.inj h
      exact RunC.out [.n 2, .r [(3, .dec false)], .n 4] (by kernel_rfl) (Obs.of (by kernel_rfl) (nt g_1))
theorem erasurelaw30_short.run   {k : Nat} {l0 : (List TEntry)} {r : Bool} (h : erasurelaw30_short k l0 = some r) : RunC Try.prog Try.f11 erasurelaw30_short.t (erasurelaw30_short.s l0) (.p (.bool r)) [] := by
  unfold erasurelaw30_short at h
  exact RunC.go [.n 7, .k [0, 3]] (by kernel_rfl) (Obs.tt (by kernel_rfl)) (erasurelaw30_short.p1.run k _ _ r h)
theorem erasurelaw30_short.p1.mono   : ∀ (k k' : Nat) (l0 : (List TEntry)) (i3 : Int) (r : Bool), k ≤ k' → erasurelaw30_short.p1 k l0 i3 = some r → erasurelaw30_short.p1 k' l0 i3 = some r := by
  intro k
  induction k with
  | zero => intro k' l0 i3 r hk h; simp [erasurelaw30_short.p1] at h
  | succ k ih =>
    intro k' l0 i3 r hk h
    obtain ⟨k', rfl⟩ : ∃ m, k' = m + 1 := ⟨k' - 1, by omega⟩
    replace hk := Nat.le_of_succ_le_succ hk
    rw [erasurelaw30_short.p1] at h ⊢
    rcases ite_or h with ⟨g_1, h⟩ | ⟨g_1, h⟩
    · refine itp g_1 ?_
      obtain ⟨g_2, h⟩ := ite_some h
      refine itp g_2 ?_
      rcases ite_or h with ⟨g_3, h⟩ | ⟨g_3, h⟩
      · refine itp g_3 ?_
        exact h
      · refine itn g_3 ?_
        exact ih _ _ _ r hk h
    · refine itn g_1 ?_
      exact h
theorem erasurelaw30_short.mono   : ∀ (k k' : Nat) (l0 : (List TEntry)) (r : Bool), k ≤ k' → erasurelaw30_short k l0 = some r → erasurelaw30_short k' l0 = some r := by
  intro k k' l0 r hk h
  unfold erasurelaw30_short at h ⊢
  exact erasurelaw30_short.p1.mono _ _ _ _ r hk h
theorem erasurelaw30_short.spec {k : Nat} {l0 : (List TEntry)} {r : Bool} (h : erasurelaw30_short k l0 = some r) : Spec Try.prog 11 [.p (eL 2 cEntry dEntry l0)] (.p (.bool r)) [] :=
  spec_of mix Try.func11 (body := bodyOf Try.f11) (by kernel_rfl) (by kernel_rfl) (erasurelaw30_short.run h)
end Go.Proofs.YtjhnpaenhdbhpabV
set_option linter.unusedVariables false
set_option linter.unusedSimpArgs false
set_option maxRecDepth 100000
namespace Go.Proofs.YtjhnpaenhdbhpabV
open Go Go.RowKit
noncomputable def value_inRange  (k : Nat) (n0 : Int) : Option Bool := if (decide (n0 ≥ (-4294967296))) = true then (some (decide (n0 ≤ 4294967296))) else (some false)
noncomputable def value_inRange.t : List Item := [.code (bodyOf Try.f63)]
noncomputable def value_inRange.s (n0 : Int) : St := ⟨frOf Try.f63.ntmps 0 [(0, .p (.int .i64 n0))], []⟩
theorem value_inRange.run   {k : Nat} {n0 : Int} {r : Bool} (h : value_inRange k n0 = some r) : RunC Try.prog Try.f63 value_inRange.t (value_inRange.s n0) (.p (.bool r)) [] := by
  unfold value_inRange at h
  rcases ite_or h with ⟨g_1, h⟩ | ⟨g_1, h⟩
  · obtain rfl := Option.some.inj h
    exact RunC.out [.n 3, .r [(2, .dec true)]] (by kernel_rfl) (Obs.of (by kernel_rfl) g_1)
  · obtain rfl := Option.some.inj h
    exact RunC.out [.n 3, .r [(2, .dec false)]] (by kernel_rfl) (Obs.of (by kernel_rfl) (nt g_1))
theorem value_inRange.mono   : ∀ (k k' : Nat) (n0 : Int) (r : Bool), k ≤ k' → value_inRange k n0 = some r → value_inRange k' n0 = some r := by
  intro k k' n0 r hk h
  unfold value_inRange at h ⊢
  rcases ite_or h with ⟨g_1, h⟩ | ⟨g_1, h⟩
  · refine itp g_1 ?_
    exact h
  · refine itn g_1 ?_
    exact h
theorem value_inRange.spec {k : Nat} {n0 : Int} {r : Bool} (h : value_inRange k n0 = some r) : Spec Try.prog 63 [.p (.int .i64 n0)] (.p (.bool r)) [] :=
  spec_of mix Try.func63 (body := bodyOf Try.f63) (by kernel_rfl) (by kernel_rfl) (value_inRange.run h)
end Go.Proofs.YtjhnpaenhdbhpabV
set_option linter.unusedVariables false
set_option linter.unusedSimpArgs false
set_option maxRecDepth 100000
namespace Go.Proofs.YtjhnpaenhdbhpabV
open Go Go.RowKit
noncomputable def value_Valid  (k : Nat) (v0 : TValue) : Option Bool := if (v0.f0 == 0) = true then (if (v0.f1 == 0) = true then (some (v0.f2.data.toList == (⟨#[]⟩ : ByteArray).data.toList)) else (some false)) else (if (v0.f0 == 1) = true then ((value_inRange k v0.f1).bind fun y_4 => (if y_4 = true then (some (v0.f2.data.toList == (⟨#[]⟩ : ByteArray).data.toList)) else (some false))) else (if (v0.f0 == 2) = true then (if (v0.f1 == 0) = true then (some (decide ((v0.f2.size : Int) ≤ 32))) else (some false)) else (some false)))
noncomputable def value_Valid.t : List Item := [.code (bodyOf Try.f50)]
noncomputable def value_Valid.s (v0 : TValue) : St := ⟨frOf Try.f50.ntmps 0 [(0, .agg ((cValue v0).map .p))], []⟩
theorem value_Valid.run   {k : Nat} {v0 : TValue} {r : Bool} (h : value_Valid k v0 = some r) : RunC Try.prog Try.f50 value_Valid.t (value_Valid.s v0) (.p (.bool r)) [] := by
  unfold value_Valid at h
  rcases ite_or h with ⟨g_1, h⟩ | ⟨g_1, h⟩
  · rcases ite_or h with ⟨g_2, h⟩ | ⟨g_2, h⟩
    · obtain rfl := Option.some.inj h
      exact RunC.out [.n 7, .r [(1, .dec true)], .n 2, .r [(3, .dec true)]] (by kernel_rfl) (Obs.of (by kernel_rfl) (And.intro g_1 g_2))
    · obtain rfl := Option.some.inj h
      exact RunC.out [.n 7, .r [(1, .dec true)], .n 2, .r [(3, .dec false)]] (by kernel_rfl) (Obs.of (by kernel_rfl) (And.intro g_1 (nt g_2)))
  · rcases ite_or h with ⟨g_3, h⟩ | ⟨g_3, h⟩
    · obtain ⟨y_4, e_5, h⟩ := bind_or h
      rcases ite_or h with ⟨g_6, h⟩ | ⟨g_6, h⟩
      · obtain rfl := Option.some.inj h
        exact RunC.out [.n 7, .r [(1, .dec false)], .n 2, .r [(1, .dec true)], .n 2, .r [(2, .call (.p (.bool y_4)) []), (3, .dec true)]] (by kernel_rfl) (Obs.of (by kernel_rfl) (And.intro (nt g_1) (And.intro g_3 (And.intro (value_inRange.spec e_5) g_6))))
      · obtain rfl := Option.some.inj h
        exact RunC.out [.n 7, .r [(1, .dec false)], .n 2, .r [(1, .dec true)], .n 2, .r [(2, .call (.p (.bool y_4)) []), (3, .dec false)]] (by kernel_rfl) (Obs.of (by kernel_rfl) (And.intro (nt g_1) (And.intro g_3 (And.intro (value_inRange.spec e_5) (nt g_6)))))
    · rcases ite_or h with ⟨g_7, h⟩ | ⟨g_7, h⟩
      · rcases ite_or h with ⟨g_8, h⟩ | ⟨g_8, h⟩
        · obtain rfl := Option.some.inj h
          exact RunC.out [.n 7, .r [(1, .dec false)], .n 2, .r [(1, .dec false)], .n 2, .r [(1, .dec true)], .n 2, .r [(3, .dec true)]] (by kernel_rfl) (Obs.of (by kernel_rfl) (And.intro (nt g_1) (And.intro (nt g_3) (And.intro g_7 g_8))))
        · obtain rfl := Option.some.inj h
          exact RunC.out [.n 7, .r [(1, .dec false)], .n 2, .r [(1, .dec false)], .n 2, .r [(1, .dec true)], .n 2, .r [(3, .dec false)]] (by kernel_rfl) (Obs.of (by kernel_rfl) (And.intro (nt g_1) (And.intro (nt g_3) (And.intro g_7 (nt g_8)))))
      · obtain rfl := Option.some.inj h
        exact RunC.out [.n 7, .r [(1, .dec false)], .n 2, .r [(1, .dec false)], .n 2, .r [(1, .dec false)], .n 5] (by kernel_rfl) (Obs.of (by kernel_rfl) (And.intro (nt g_1) (And.intro (nt g_3) (nt g_7))))
theorem value_Valid.mono   : ∀ (k k' : Nat) (v0 : TValue) (r : Bool), k ≤ k' → value_Valid k v0 = some r → value_Valid k' v0 = some r := by
  intro k k' v0 r hk h
  unfold value_Valid at h ⊢
  rcases ite_or h with ⟨g_1, h⟩ | ⟨g_1, h⟩
  · refine itp g_1 ?_
    rcases ite_or h with ⟨g_2, h⟩ | ⟨g_2, h⟩
    · refine itp g_2 ?_
      exact h
    · refine itn g_2 ?_
      exact h
  · refine itn g_1 ?_
    rcases ite_or h with ⟨g_3, h⟩ | ⟨g_3, h⟩
    · refine itp g_3 ?_
      obtain ⟨y_4, e_5, h⟩ := bind_or h
      refine bnd (value_inRange.mono _ _ _ _ hk e_5) ?_
      rcases ite_or h with ⟨g_6, h⟩ | ⟨g_6, h⟩
      · refine itp g_6 ?_
        exact h
      · refine itn g_6 ?_
        exact h
    · refine itn g_3 ?_
      rcases ite_or h with ⟨g_7, h⟩ | ⟨g_7, h⟩
      · refine itp g_7 ?_
        rcases ite_or h with ⟨g_8, h⟩ | ⟨g_8, h⟩
        · refine itp g_8 ?_
          exact h
        · refine itn g_8 ?_
          exact h
      · refine itn g_7 ?_
        exact h
theorem value_Valid.spec {k : Nat} {v0 : TValue} {r : Bool} (h : value_Valid k v0 = some r) : Spec Try.prog 50 [.agg ((cValue v0).map .p)] (.p (.bool r)) [] :=
  spec_of mix Try.func50 (body := bodyOf Try.f50) (by kernel_rfl) (by kernel_rfl) (value_Valid.run h)
end Go.Proofs.YtjhnpaenhdbhpabV
set_option linter.unusedVariables false
set_option linter.unusedSimpArgs false
set_option maxRecDepth 100000
namespace Go.Proofs.YtjhnpaenhdbhpabV
open Go Go.RowKit
noncomputable def value_Clean.p1  (k : Nat) (v1b : TValue) (v2b : TValue) : Option TValue := some v1b
noncomputable def value_Clean.p2  (k : Nat) (v2b : TValue) : Option TValue := some (TValue.mk 0 0 (⟨#[]⟩ : ByteArray))
noncomputable def value_Clean  (k : Nat) (v0 : TValue) : Option TValue := (value_Valid k v0).bind fun y_1 => if y_1 = true then (value_Clean.p1 k v0 (TValue.mk 0 0 (⟨#[]⟩ : ByteArray))) else (value_Clean.p2 k (TValue.mk 0 0 (⟨#[]⟩ : ByteArray)))
noncomputable def value_Clean.t : List Item := [.code (bodyOf Try.f37)]
noncomputable def value_Clean.s (v0 : TValue) : St := ⟨frOf Try.f37.ntmps 0 [(0, .agg ((cValue v0).map .p))], []⟩
noncomputable def value_Clean.p1.t : List Item := nav 6 [true] value_Clean.t
noncomputable def value_Clean.p1.s (v1b : TValue) (v2b : TValue) : St := ⟨frOf Try.f37.ntmps 0 [(1, .ptr 0 0 0), (2, .ptr 1 0 0)], [.box ((cValue v1b).map .p), .box ((cValue v2b).map .p)]⟩
noncomputable def value_Clean.p2.t : List Item := nav 6 [false] value_Clean.t
noncomputable def value_Clean.p2.s (v2b : TValue) : St := ⟨frOf Try.f37.ntmps 0 [(2, .ptr 0 0 0)], [.box ((cValue v2b).map .p)]⟩
theorem value_Clean.p1.run   {k : Nat} {v1b : TValue} {v2b : TValue} {r : TValue} (h : value_Clean.p1 k v1b v2b = some r) : RunC Try.prog Try.f37 value_Clean.p1.t (value_Clean.p1.s v1b v2b) (.agg ((cValue r).map .p)) [] := by
  unfold value_Clean.p1 at h
  obtain rfl := Option.some.inj h
  exact RunC.out [.n 2] (by kernel_rfl) (Obs.tt (by kernel_rfl))
theorem value_Clean.p2.run   {k : Nat} {v2b : TValue} {r : TValue} (h : value_Clean.p2 k v2b = some r) : RunC Try.prog Try.f37 value_Clean.p2.t (value_Clean.p2.s v2b) (.agg ((cValue r).map .p)) [] := by
  unfold value_Clean.p2 at h
  obtain rfl := Option.some.inj h
  exact RunC.out [.n 3] (by kernel_rfl) (Obs.tt (by kernel_rfl))
theorem value_Clean.run   {k : Nat} {v0 : TValue} {r : TValue} (h : value_Clean k v0 = some r) : RunC Try.prog Try.f37 value_Clean.t (value_Clean.s v0) (.agg ((cValue r).map .p)) [] := by
  unfold value_Clean at h
  obtain ⟨y_1, e_2, h⟩ := bind_or h
  rcases Bool.eq_false_or_eq_true y_1 with hb | hb <;> subst hb
  · rw [if_pos rfl] at h
    exact RunC.go [.n 4, .r [(1, .call (.p (.bool true)) [])], .n 1, .k [1, 2]] (by kernel_rfl) (Obs.of (by kernel_rfl) (value_Valid.spec e_2)) (value_Clean.p1.run h)
  · rw [if_neg (by decide)] at h
    exact RunC.go [.n 4, .r [(1, .call (.p (.bool false)) [])], .n 1, .k [2]] (by kernel_rfl) (Obs.of (by kernel_rfl) (value_Valid.spec e_2)) (value_Clean.p2.run h)
theorem value_Clean.p1.mono   : ∀ (k k' : Nat) (v1b : TValue) (v2b : TValue) (r : TValue), k ≤ k' → value_Clean.p1 k v1b v2b = some r → value_Clean.p1 k' v1b v2b = some r := by
  intro k k' v1b v2b r hk h
  unfold value_Clean.p1 at h ⊢
  exact h
theorem value_Clean.p2.mono   : ∀ (k k' : Nat) (v2b : TValue) (r : TValue), k ≤ k' → value_Clean.p2 k v2b = some r → value_Clean.p2 k' v2b = some r := by
  intro k k' v2b r hk h
  unfold value_Clean.p2 at h ⊢
  exact h
theorem value_Clean.mono   : ∀ (k k' : Nat) (v0 : TValue) (r : TValue), k ≤ k' → value_Clean k v0 = some r → value_Clean k' v0 = some r := by
  intro k k' v0 r hk h
  unfold value_Clean at h ⊢
  obtain ⟨y_1, e_2, h⟩ := bind_or h
  refine bnd (value_Valid.mono _ _ _ _ hk e_2) ?_
  rcases ite_or h with ⟨hb, h⟩ | ⟨hb, h⟩
  · refine itp hb ?_
    exact value_Clean.p1.mono _ _ _ _ r hk h
  · refine itn hb ?_
    exact value_Clean.p2.mono _ _ _ r hk h
theorem value_Clean.spec {k : Nat} {v0 : TValue} {r : TValue} (h : value_Clean k v0 = some r) : Spec Try.prog 37 [.agg ((cValue v0).map .p)] (.agg ((cValue r).map .p)) [] :=
  spec_of mix Try.func37 (body := bodyOf Try.f37) (by kernel_rfl) (by kernel_rfl) (value_Clean.run h)
end Go.Proofs.YtjhnpaenhdbhpabV
set_option linter.unusedVariables false
set_option linter.unusedSimpArgs false
set_option maxRecDepth 100000
namespace Go.Proofs.YtjhnpaenhdbhpabV
open Go Go.RowKit
noncomputable def cache_copied.p1  : Nat → (List TEntry) → Int → (List TEntry) → Option (List TEntry)
  | 0, _, _, _ => none
  | k + 1, l0, i4, out3 => if (decide (i4 < ((l0).length : Int))) = true then (if 0 ≤ i4 ∧ i4 < ((l0).length : Int) then (if ((l0.getD i4.toNat dEntry).f0).length ≤ maxLen ∧ ((l0.getD i4.toNat dEntry).f0).length * 32 ≤ 140737488355328 then (if (out3).length + ([(l0.getD i4.toNat dEntry)]).length ≤ maxLen ∧ ((out3).length + ([(l0.getD i4.toNat dEntry)]).length) * 32 ≤ 140737488355328 then (cache_copied.p1 k l0 (IntKind.i64.wrap (i4 + 1)) (out3 ++ ([(l0.getD i4.toNat dEntry)]))) else none) else none) else none) else (some out3)
noncomputable def cache_copied  (k : Nat) (l0 : (List TEntry)) : Option (List TEntry) := cache_copied.p1 k l0 0 ([] : List TEntry)
noncomputable def cache_copied.t : List Item := [.code (bodyOf Try.f39)]
noncomputable def cache_copied.s (l0 : (List TEntry)) : St := ⟨frOf Try.f39.ntmps 0 [(0, .p (eL 2 cEntry dEntry l0))], []⟩
noncomputable def cache_copied.p1.t : List Item := nav 9 [] cache_copied.t
noncomputable def cache_copied.p1.s (l0 : (List TEntry)) (i4 : Int) (out3 : (List TEntry)) : St := ⟨frOf Try.f39.ntmps 0 [(0, .p (eL 2 cEntry dEntry l0)), (3, .sref 0 36 2 (out3).length), (4, .p (.int .i64 i4))], [(oL true 36 2 cEntry dEntry out3)]⟩
theorem cache_copied.p1.run   : ∀ (k : Nat) (l0 : (List TEntry)) (i4 : Int) (out3 : (List TEntry)) (r : (List TEntry)), cache_copied.p1 k l0 i4 out3 = some r → RunC Try.prog Try.f39 cache_copied.p1.t (cache_copied.p1.s l0 i4 out3) (.sref 0 36 2 (r).length) [(oL true 36 2 cEntry dEntry (r))] := by
  intro k
  induction k with
  | zero => intro l0 i4 out3 r h; simp [cache_copied.p1] at h
  | succ k ih =>
    intro l0 i4 out3 r h
    rw [cache_copied.p1] at h
    rcases ite_or h with ⟨g_1, h⟩ | ⟨g_1, h⟩
    · obtain ⟨g_2, h⟩ := ite_some h
      obtain ⟨g_3, h⟩ := ite_some h
      obtain ⟨g_4, h⟩ := ite_some h
      exact RunC.go [.n 2, .r [(3, .dec true)], .n 4, .r [(13, .obj (oL true 36 2 cEntry dEntry [(l0.getD i4.toNat dEntry)])), (14, .obj (oL true 36 2 cEntry dEntry (out3 ++ ([(l0.getD i4.toNat dEntry)]))))], .n 3, .k [0, 3, 4]] (by kernel_rfl) (Obs.of (by kernel_rfl) (And.intro g_1 (And.intro g_2 (And.intro g_3 (And.intro g_2 (And.intro (le_one 36 2 cEntry dEntry (l0.getD i4.toNat dEntry)) (And.intro g_4 (le_app 36 2 cEntry dEntry out3 ([(l0.getD i4.toNat dEntry)]))))))))) (ih _ _ _ r h)
    · obtain rfl := Option.some.inj h
      exact RunC.out [.n 2, .r [(3, .dec false)], .n 4] (by kernel_rfl) (Obs.of (by kernel_rfl) (nt g_1))
theorem cache_copied.run   {k : Nat} {l0 : (List TEntry)} {r : (List TEntry)} (h : cache_copied k l0 = some r) : RunC Try.prog Try.f39 cache_copied.t (cache_copied.s l0) (.sref 0 36 2 (r).length) [(oL true 36 2 cEntry dEntry (r))] := by
  unfold cache_copied at h
  exact RunC.go [.n 1, .r [(0, .obj (oL true 36 2 cEntry dEntry ([] : List TEntry)))], .n 1, .r [(0, .obj (oL true 36 2 cEntry dEntry ([] : List TEntry)))], .n 5, .k [0, 3, 4]] (by kernel_rfl) (Obs.of (by kernel_rfl) (And.intro (le_nil 36 2 cEntry dEntry) (le_nil 36 2 cEntry dEntry))) (cache_copied.p1.run k _ _ _ r h)
theorem cache_copied.p1.mono   : ∀ (k k' : Nat) (l0 : (List TEntry)) (i4 : Int) (out3 : (List TEntry)) (r : (List TEntry)), k ≤ k' → cache_copied.p1 k l0 i4 out3 = some r → cache_copied.p1 k' l0 i4 out3 = some r := by
  intro k
  induction k with
  | zero => intro k' l0 i4 out3 r hk h; simp [cache_copied.p1] at h
  | succ k ih =>
    intro k' l0 i4 out3 r hk h
    obtain ⟨k', rfl⟩ : ∃ m, k' = m + 1 := ⟨k' - 1, by omega⟩
    replace hk := Nat.le_of_succ_le_succ hk
    rw [cache_copied.p1] at h ⊢
    rcases ite_or h with ⟨g_1, h⟩ | ⟨g_1, h⟩
    · refine itp g_1 ?_
      obtain ⟨g_2, h⟩ := ite_some h
      refine itp g_2 ?_
      obtain ⟨g_3, h⟩ := ite_some h
      refine itp g_3 ?_
      obtain ⟨g_4, h⟩ := ite_some h
      refine itp g_4 ?_
      exact ih _ _ _ _ r hk h
    · refine itn g_1 ?_
      exact h
theorem cache_copied.mono   : ∀ (k k' : Nat) (l0 : (List TEntry)) (r : (List TEntry)), k ≤ k' → cache_copied k l0 = some r → cache_copied k' l0 = some r := by
  intro k k' l0 r hk h
  unfold cache_copied at h ⊢
  exact cache_copied.p1.mono _ _ _ _ _ r hk h
theorem cache_copied.spec {k : Nat} {l0 : (List TEntry)} {r : (List TEntry)} (h : cache_copied k l0 = some r) : Spec Try.prog 39 [.p (eL 2 cEntry dEntry l0)] (.sref 0 36 2 (r).length) [(oL true 36 2 cEntry dEntry (r))] :=
  spec_of mix Try.func39 (body := bodyOf Try.f39) (by kernel_rfl) (by kernel_rfl) (cache_copied.run h)
end Go.Proofs.YtjhnpaenhdbhpabV
set_option linter.unusedVariables false
set_option linter.unusedSimpArgs false
set_option maxRecDepth 100000
namespace Go.Proofs.YtjhnpaenhdbhpabV
open Go Go.RowKit
noncomputable def cache_at  (k : Nat) (row0 : (List TValue)) (column1 : Int) : Option TValue := if (decide (column1 < 0)) = true then (some (TValue.mk 0 0 (⟨#[]⟩ : ByteArray))) else (if (decide (column1 ≥ ((row0).length : Int))) = true then (some (TValue.mk 0 0 (⟨#[]⟩ : ByteArray))) else (if 0 ≤ column1 ∧ column1 < ((row0).length : Int) then ((value_Clean k (row0.getD column1.toNat dValue)).bind fun y_4 => (some y_4)) else none))
noncomputable def cache_at.t : List Item := [.code (bodyOf Try.f38)]
noncomputable def cache_at.s (row0 : (List TValue)) (column1 : Int) : St := ⟨frOf Try.f38.ntmps 0 [(0, .p (eL 3 cValue dValue row0)), (1, .p (.int .i64 column1))], []⟩
theorem cache_at.run   {k : Nat} {row0 : (List TValue)} {column1 : Int} {r : TValue} (h : cache_at k row0 column1 = some r) : RunC Try.prog Try.f38 cache_at.t (cache_at.s row0 column1) (.agg ((cValue r).map .p)) [] := by
  unfold cache_at at h
  rcases ite_or h with ⟨g_1, h⟩ | ⟨g_1, h⟩
  · obtain rfl := Option.some.inj h
    exact RunC.out [.n 4, .r [(2, .dec true)], .n 3] (by kernel_rfl) (Obs.of (by kernel_rfl) g_1)
  · rcases ite_or h with ⟨g_2, h⟩ | ⟨g_2, h⟩
    · obtain rfl := Option.some.inj h
      exact RunC.out [.n 4, .r [(2, .dec false), (7, .dec true)], .n 3] (by kernel_rfl) (Obs.of (by kernel_rfl) (And.intro (nt g_1) g_2))
    · obtain ⟨g_3, h⟩ := ite_some h
      obtain ⟨y_4, e_5, h⟩ := bind_or h
      obtain rfl := Option.some.inj h
      exact RunC.out [.n 4, .r [(2, .dec false), (7, .dec false)], .n 3, .r [(4, .call (.agg ((cValue y_4).map .p)) [])]] (by kernel_rfl) (Obs.of (by kernel_rfl) (And.intro (nt g_1) (And.intro (nt g_2) (And.intro g_3 (value_Clean.spec e_5)))))
theorem cache_at.mono   : ∀ (k k' : Nat) (row0 : (List TValue)) (column1 : Int) (r : TValue), k ≤ k' → cache_at k row0 column1 = some r → cache_at k' row0 column1 = some r := by
  intro k k' row0 column1 r hk h
  unfold cache_at at h ⊢
  rcases ite_or h with ⟨g_1, h⟩ | ⟨g_1, h⟩
  · refine itp g_1 ?_
    exact h
  · refine itn g_1 ?_
    rcases ite_or h with ⟨g_2, h⟩ | ⟨g_2, h⟩
    · refine itp g_2 ?_
      exact h
    · refine itn g_2 ?_
      obtain ⟨g_3, h⟩ := ite_some h
      refine itp g_3 ?_
      obtain ⟨y_4, e_5, h⟩ := bind_or h
      refine bnd (value_Clean.mono _ _ _ _ hk e_5) ?_
      exact h
theorem cache_at.spec {k : Nat} {row0 : (List TValue)} {column1 : Int} {r : TValue} (h : cache_at k row0 column1 = some r) : Spec Try.prog 38 [.p (eL 3 cValue dValue row0), .p (.int .i64 column1)] (.agg ((cValue r).map .p)) [] :=
  spec_of mix Try.func38 (body := bodyOf Try.f38) (by kernel_rfl) (by kernel_rfl) (cache_at.run h)
end Go.Proofs.YtjhnpaenhdbhpabV
set_option linter.unusedVariables false
set_option linter.unusedSimpArgs false
set_option maxRecDepth 100000
namespace Go.Proofs.YtjhnpaenhdbhpabV
open Go Go.RowKit
noncomputable def cache_Select.p1  : Nat → (List TEntry) → Int → Int → TValue → (List TEntry) → Option (List TEntry)
  | 0, _, _, _, _, _ => none
  | k + 1, rows0, column1, i9, want7b, out8 => if (decide (i9 < ((rows0).length : Int))) = true then (if 0 ≤ i9 ∧ i9 < ((rows0).length : Int) then ((cache_at k ((rows0.getD i9.toNat dEntry).f0) column1).bind fun y_5 => (if ((y_5.f0 == want7b.f0) && ((y_5.f1 == want7b.f1) && ((y_5.f2.data.toList == want7b.f2.data.toList) && true))) = true then (if (out8).length + ([(rows0.getD i9.toNat dEntry)]).length ≤ maxLen ∧ ((out8).length + ([(rows0.getD i9.toNat dEntry)]).length) * 32 ≤ 140737488355328 then (cache_Select.p1 k rows0 column1 (IntKind.i64.wrap (i9 + 1)) want7b (out8 ++ ([(rows0.getD i9.toNat dEntry)]))) else none) else (cache_Select.p1 k rows0 column1 (IntKind.i64.wrap (i9 + 1)) want7b out8))) else none) else ((cache_copied k out8).bind fun y_9 => (some y_9))
noncomputable def cache_Select  (k : Nat) (rows0 : (List TEntry)) (column1 : Int) (v2 : TValue) : Option (List TEntry) := (value_Clean k v2).bind fun y_1 => (cache_Select.p1 k rows0 column1 0 y_1 ([] : List TEntry))
noncomputable def cache_Select.t : List Item := [.code (bodyOf Try.f14)]
noncomputable def cache_Select.s (rows0 : (List TEntry)) (column1 : Int) (v2 : TValue) : St := ⟨frOf Try.f14.ntmps 0 [(0, .p (eL 2 cEntry dEntry rows0)), (1, .p (.int .i64 column1)), (2, .agg ((cValue v2).map .p))], []⟩
noncomputable def cache_Select.p1.t : List Item := nav 11 [] cache_Select.t
noncomputable def cache_Select.p1.s (rows0 : (List TEntry)) (column1 : Int) (i9 : Int) (want7b : TValue) (out8 : (List TEntry)) : St := ⟨frOf Try.f14.ntmps 0 [(0, .p (eL 2 cEntry dEntry rows0)), (1, .p (.int .i64 column1)), (7, .ptr 0 0 0), (8, .sref 1 36 2 (out8).length), (9, .p (.int .i64 i9))], [.box ((cValue want7b).map .p), (oL true 36 2 cEntry dEntry out8)]⟩
theorem cache_Select.p1.run   : ∀ (k : Nat) (rows0 : (List TEntry)) (column1 : Int) (i9 : Int) (want7b : TValue) (out8 : (List TEntry)) (r : (List TEntry)), cache_Select.p1 k rows0 column1 i9 want7b out8 = some r → RunC Try.prog Try.f14 cache_Select.p1.t (cache_Select.p1.s rows0 column1 i9 want7b out8) (.sref 0 36 2 (r).length) [(oL true 36 2 cEntry dEntry (r))] := by
  intro k
  induction k with
  | zero => intro rows0 column1 i9 want7b out8 r h; simp [cache_Select.p1] at h
  | succ k ih =>
    intro rows0 column1 i9 want7b out8 r h
    rw [cache_Select.p1] at h
    rcases ite_or h with ⟨g_3, h⟩ | ⟨g_3, h⟩
    · obtain ⟨g_4, h⟩ := ite_some h
      obtain ⟨y_5, e_6, h⟩ := bind_or h
      rcases ite_or h with ⟨g_7, h⟩ | ⟨g_7, h⟩
      · obtain ⟨g_8, h⟩ := ite_some h
        exact RunC.go [.n 2, .r [(3, .dec true)], .n 5, .r [(6, .call (.agg ((cValue y_5).map .p)) []), (8, .dec true)], .n 1, .r [(5, .obj (oL true 36 2 cEntry dEntry [(rows0.getD i9.toNat dEntry)])), (6, .obj (oL true 36 2 cEntry dEntry (out8 ++ ([(rows0.getD i9.toNat dEntry)]))))], .n 3, .k [0, 1, 7, 8, 9]] (by kernel_rfl) (Obs.of (by kernel_rfl) (And.intro g_3 (And.intro g_4 (And.intro (cache_at.spec e_6) (And.intro g_7 (And.intro g_4 (And.intro (le_one 36 2 cEntry dEntry (rows0.getD i9.toNat dEntry)) (And.intro g_8 (le_app 36 2 cEntry dEntry out8 ([(rows0.getD i9.toNat dEntry)])))))))))) (ih _ _ _ _ _ r h)
      · exact RunC.go [.n 2, .r [(3, .dec true)], .n 5, .r [(6, .call (.agg ((cValue y_5).map .p)) []), (8, .dec false)], .n 5, .k [0, 1, 7, 8, 9]] (by kernel_rfl) (Obs.of (by kernel_rfl) (And.intro g_3 (And.intro g_4 (And.intro (cache_at.spec e_6) (nt g_7))))) (ih _ _ _ _ _ r h)
    · obtain ⟨y_9, e_10, h⟩ := bind_or h
      obtain rfl := Option.some.inj h
      exact RunC.out [.n 2, .r [(3, .dec false)], .n 3, .r [(1, .call (.sref 0 36 2 (y_9).length) [(oL true 36 2 cEntry dEntry y_9)])]] (by kernel_rfl) (Obs.of (by kernel_rfl) (And.intro (nt g_3) (cache_copied.spec e_10)))
theorem cache_Select.run   {k : Nat} {rows0 : (List TEntry)} {column1 : Int} {v2 : TValue} {r : (List TEntry)} (h : cache_Select k rows0 column1 v2 = some r) : RunC Try.prog Try.f14 cache_Select.t (cache_Select.s rows0 column1 v2) (.sref 0 36 2 (r).length) [(oL true 36 2 cEntry dEntry (r))] := by
  unfold cache_Select at h
  obtain ⟨y_1, e_2, h⟩ := bind_or h
  exact RunC.go [.n 1, .r [(1, .obj (oL true 36 2 cEntry dEntry ([] : List TEntry)))], .n 1, .r [(1, .call (.agg ((cValue y_1).map .p)) [])], .n 1, .r [(0, .obj (oL true 36 2 cEntry dEntry ([] : List TEntry)))], .n 5, .k [0, 1, 7, 8, 9]] (by kernel_rfl) (Obs.of (by kernel_rfl) (And.intro (le_nil 36 2 cEntry dEntry) (And.intro (value_Clean.spec e_2) (le_nil 36 2 cEntry dEntry)))) (cache_Select.p1.run k _ _ _ _ _ r h)
theorem cache_Select.p1.mono   : ∀ (k k' : Nat) (rows0 : (List TEntry)) (column1 : Int) (i9 : Int) (want7b : TValue) (out8 : (List TEntry)) (r : (List TEntry)), k ≤ k' → cache_Select.p1 k rows0 column1 i9 want7b out8 = some r → cache_Select.p1 k' rows0 column1 i9 want7b out8 = some r := by
  intro k
  induction k with
  | zero => intro k' rows0 column1 i9 want7b out8 r hk h; simp [cache_Select.p1] at h
  | succ k ih =>
    intro k' rows0 column1 i9 want7b out8 r hk h
    obtain ⟨k', rfl⟩ : ∃ m, k' = m + 1 := ⟨k' - 1, by omega⟩
    replace hk := Nat.le_of_succ_le_succ hk
    rw [cache_Select.p1] at h ⊢
    rcases ite_or h with ⟨g_3, h⟩ | ⟨g_3, h⟩
    · refine itp g_3 ?_
      obtain ⟨g_4, h⟩ := ite_some h
      refine itp g_4 ?_
      obtain ⟨y_5, e_6, h⟩ := bind_or h
      refine bnd (cache_at.mono _ _ _ _ _ hk e_6) ?_
      rcases ite_or h with ⟨g_7, h⟩ | ⟨g_7, h⟩
      · refine itp g_7 ?_
        obtain ⟨g_8, h⟩ := ite_some h
        refine itp g_8 ?_
        exact ih _ _ _ _ _ _ r hk h
      · refine itn g_7 ?_
        exact ih _ _ _ _ _ _ r hk h
    · refine itn g_3 ?_
      obtain ⟨y_9, e_10, h⟩ := bind_or h
      refine bnd (cache_copied.mono _ _ _ _ hk e_10) ?_
      exact h
theorem cache_Select.mono   : ∀ (k k' : Nat) (rows0 : (List TEntry)) (column1 : Int) (v2 : TValue) (r : (List TEntry)), k ≤ k' → cache_Select k rows0 column1 v2 = some r → cache_Select k' rows0 column1 v2 = some r := by
  intro k k' rows0 column1 v2 r hk h
  unfold cache_Select at h ⊢
  obtain ⟨y_1, e_2, h⟩ := bind_or h
  refine bnd (value_Clean.mono _ _ _ _ hk e_2) ?_
  exact cache_Select.p1.mono _ _ _ _ _ _ _ r hk h
theorem cache_Select.spec {k : Nat} {rows0 : (List TEntry)} {column1 : Int} {v2 : TValue} {r : (List TEntry)} (h : cache_Select k rows0 column1 v2 = some r) : Spec Try.prog 14 [.p (eL 2 cEntry dEntry rows0), .p (.int .i64 column1), .agg ((cValue v2).map .p)] (.sref 0 36 2 (r).length) [(oL true 36 2 cEntry dEntry (r))] :=
  spec_of mix Try.func14 (body := bodyOf Try.f14) (by kernel_rfl) (by kernel_rfl) (cache_Select.run h)
end Go.Proofs.YtjhnpaenhdbhpabV
set_option linter.unusedVariables false
set_option linter.unusedSimpArgs false
set_option maxRecDepth 100000
namespace Go.Proofs.YtjhnpaenhdbhpabV
open Go Go.RowKit
noncomputable def erasureref01_Valid  (k : Nat) (v0 : TValue) : Option Bool := if (v0.f0 == 0) = true then (if (v0.f1 == 0) = true then (some (v0.f2.data.toList == (⟨#[]⟩ : ByteArray).data.toList)) else (some false)) else (if (v0.f0 == 1) = true then (if (decide (v0.f1 ≥ (-4294967296))) = true then (if (decide (v0.f1 ≤ 4294967296)) = true then (some (v0.f2.data.toList == (⟨#[]⟩ : ByteArray).data.toList)) else (some false)) else (some false)) else (if (v0.f0 == 2) = true then (if (v0.f1 == 0) = true then (some (decide ((v0.f2.size : Int) ≤ 32))) else (some false)) else (some false)))
noncomputable def erasureref01_Valid.t : List Item := [.code (bodyOf Try.f41)]
noncomputable def erasureref01_Valid.s (v0 : TValue) : St := ⟨frOf Try.f41.ntmps 0 [(0, .agg ((cValue v0).map .p))], []⟩
theorem erasureref01_Valid.run   {k : Nat} {v0 : TValue} {r : Bool} (h : erasureref01_Valid k v0 = some r) : RunC Try.prog Try.f41 erasureref01_Valid.t (erasureref01_Valid.s v0) (.p (.bool r)) [] := by
  unfold erasureref01_Valid at h
  rcases ite_or h with ⟨g_1, h⟩ | ⟨g_1, h⟩
  · rcases ite_or h with ⟨g_2, h⟩ | ⟨g_2, h⟩
    · obtain rfl := Option.some.inj h
      exact RunC.out [.n 7, .r [(1, .dec true)], .n 2, .r [(3, .dec true)]] (by kernel_rfl) (Obs.of (by kernel_rfl) (And.intro g_1 g_2))
    · obtain rfl := Option.some.inj h
      exact RunC.out [.n 7, .r [(1, .dec true)], .n 2, .r [(3, .dec false)]] (by kernel_rfl) (Obs.of (by kernel_rfl) (And.intro g_1 (nt g_2)))
  · rcases ite_or h with ⟨g_3, h⟩ | ⟨g_3, h⟩
    · rcases ite_or h with ⟨g_4, h⟩ | ⟨g_4, h⟩
      · rcases ite_or h with ⟨g_5, h⟩ | ⟨g_5, h⟩
        · obtain rfl := Option.some.inj h
          exact RunC.out [.n 7, .r [(1, .dec false)], .n 2, .r [(1, .dec true)], .n 2, .r [(3, .dec true), (8, .dec true)]] (by kernel_rfl) (Obs.of (by kernel_rfl) (And.intro (nt g_1) (And.intro g_3 (And.intro g_4 g_5))))
        · obtain rfl := Option.some.inj h
          exact RunC.out [.n 7, .r [(1, .dec false)], .n 2, .r [(1, .dec true)], .n 2, .r [(3, .dec true), (8, .dec false)]] (by kernel_rfl) (Obs.of (by kernel_rfl) (And.intro (nt g_1) (And.intro g_3 (And.intro g_4 (nt g_5)))))
      · obtain rfl := Option.some.inj h
        exact RunC.out [.n 7, .r [(1, .dec false)], .n 2, .r [(1, .dec true)], .n 2, .r [(3, .dec false)]] (by kernel_rfl) (Obs.of (by kernel_rfl) (And.intro (nt g_1) (And.intro g_3 (nt g_4))))
    · rcases ite_or h with ⟨g_6, h⟩ | ⟨g_6, h⟩
      · rcases ite_or h with ⟨g_7, h⟩ | ⟨g_7, h⟩
        · obtain rfl := Option.some.inj h
          exact RunC.out [.n 7, .r [(1, .dec false)], .n 2, .r [(1, .dec false)], .n 2, .r [(1, .dec true)], .n 2, .r [(3, .dec true)]] (by kernel_rfl) (Obs.of (by kernel_rfl) (And.intro (nt g_1) (And.intro (nt g_3) (And.intro g_6 g_7))))
        · obtain rfl := Option.some.inj h
          exact RunC.out [.n 7, .r [(1, .dec false)], .n 2, .r [(1, .dec false)], .n 2, .r [(1, .dec true)], .n 2, .r [(3, .dec false)]] (by kernel_rfl) (Obs.of (by kernel_rfl) (And.intro (nt g_1) (And.intro (nt g_3) (And.intro g_6 (nt g_7)))))
      · obtain rfl := Option.some.inj h
        exact RunC.out [.n 7, .r [(1, .dec false)], .n 2, .r [(1, .dec false)], .n 2, .r [(1, .dec false)], .n 5] (by kernel_rfl) (Obs.of (by kernel_rfl) (And.intro (nt g_1) (And.intro (nt g_3) (nt g_6))))
theorem erasureref01_Valid.mono   : ∀ (k k' : Nat) (v0 : TValue) (r : Bool), k ≤ k' → erasureref01_Valid k v0 = some r → erasureref01_Valid k' v0 = some r := by
  intro k k' v0 r hk h
  unfold erasureref01_Valid at h ⊢
  rcases ite_or h with ⟨g_1, h⟩ | ⟨g_1, h⟩
  · refine itp g_1 ?_
    rcases ite_or h with ⟨g_2, h⟩ | ⟨g_2, h⟩
    · refine itp g_2 ?_
      exact h
    · refine itn g_2 ?_
      exact h
  · refine itn g_1 ?_
    rcases ite_or h with ⟨g_3, h⟩ | ⟨g_3, h⟩
    · refine itp g_3 ?_
      rcases ite_or h with ⟨g_4, h⟩ | ⟨g_4, h⟩
      · refine itp g_4 ?_
        rcases ite_or h with ⟨g_5, h⟩ | ⟨g_5, h⟩
        · refine itp g_5 ?_
          exact h
        · refine itn g_5 ?_
          exact h
      · refine itn g_4 ?_
        exact h
    · refine itn g_3 ?_
      rcases ite_or h with ⟨g_6, h⟩ | ⟨g_6, h⟩
      · refine itp g_6 ?_
        rcases ite_or h with ⟨g_7, h⟩ | ⟨g_7, h⟩
        · refine itp g_7 ?_
          exact h
        · refine itn g_7 ?_
          exact h
      · refine itn g_6 ?_
        exact h
theorem erasureref01_Valid.spec {k : Nat} {v0 : TValue} {r : Bool} (h : erasureref01_Valid k v0 = some r) : Spec Try.prog 41 [.agg ((cValue v0).map .p)] (.p (.bool r)) [] :=
  spec_of mix Try.func41 (body := bodyOf Try.f41) (by kernel_rfl) (by kernel_rfl) (erasureref01_Valid.run h)
end Go.Proofs.YtjhnpaenhdbhpabV
set_option linter.unusedVariables false
set_option linter.unusedSimpArgs false
set_option maxRecDepth 100000
namespace Go.Proofs.YtjhnpaenhdbhpabV
open Go Go.RowKit
noncomputable def erasureref01_Clean.p1  (k : Nat) (v1b : TValue) (v2b : TValue) : Option TValue := some v1b
noncomputable def erasureref01_Clean.p2  (k : Nat) (v2b : TValue) : Option TValue := some (TValue.mk 0 0 (⟨#[]⟩ : ByteArray))
noncomputable def erasureref01_Clean  (k : Nat) (v0 : TValue) : Option TValue := (erasureref01_Valid k v0).bind fun y_1 => if y_1 = true then (erasureref01_Clean.p1 k v0 (TValue.mk 0 0 (⟨#[]⟩ : ByteArray))) else (erasureref01_Clean.p2 k (TValue.mk 0 0 (⟨#[]⟩ : ByteArray)))
noncomputable def erasureref01_Clean.t : List Item := [.code (bodyOf Try.f16)]
noncomputable def erasureref01_Clean.s (v0 : TValue) : St := ⟨frOf Try.f16.ntmps 0 [(0, .agg ((cValue v0).map .p))], []⟩
noncomputable def erasureref01_Clean.p1.t : List Item := nav 6 [true] erasureref01_Clean.t
noncomputable def erasureref01_Clean.p1.s (v1b : TValue) (v2b : TValue) : St := ⟨frOf Try.f16.ntmps 0 [(1, .ptr 0 0 0), (2, .ptr 1 0 0)], [.box ((cValue v1b).map .p), .box ((cValue v2b).map .p)]⟩
noncomputable def erasureref01_Clean.p2.t : List Item := nav 6 [false] erasureref01_Clean.t
noncomputable def erasureref01_Clean.p2.s (v2b : TValue) : St := ⟨frOf Try.f16.ntmps 0 [(2, .ptr 0 0 0)], [.box ((cValue v2b).map .p)]⟩
theorem erasureref01_Clean.p1.run   {k : Nat} {v1b : TValue} {v2b : TValue} {r : TValue} (h : erasureref01_Clean.p1 k v1b v2b = some r) : RunC Try.prog Try.f16 erasureref01_Clean.p1.t (erasureref01_Clean.p1.s v1b v2b) (.agg ((cValue r).map .p)) [] := by
  unfold erasureref01_Clean.p1 at h
  obtain rfl := Option.some.inj h
  exact RunC.out [.n 2] (by kernel_rfl) (Obs.tt (by kernel_rfl))
theorem erasureref01_Clean.p2.run   {k : Nat} {v2b : TValue} {r : TValue} (h : erasureref01_Clean.p2 k v2b = some r) : RunC Try.prog Try.f16 erasureref01_Clean.p2.t (erasureref01_Clean.p2.s v2b) (.agg ((cValue r).map .p)) [] := by
  unfold erasureref01_Clean.p2 at h
  obtain rfl := Option.some.inj h
  exact RunC.out [.n 3] (by kernel_rfl) (Obs.tt (by kernel_rfl))
theorem erasureref01_Clean.run   {k : Nat} {v0 : TValue} {r : TValue} (h : erasureref01_Clean k v0 = some r) : RunC Try.prog Try.f16 erasureref01_Clean.t (erasureref01_Clean.s v0) (.agg ((cValue r).map .p)) [] := by
  unfold erasureref01_Clean at h
  obtain ⟨y_1, e_2, h⟩ := bind_or h
  rcases Bool.eq_false_or_eq_true y_1 with hb | hb <;> subst hb
  · rw [if_pos rfl] at h
    exact RunC.go [.n 4, .r [(1, .call (.p (.bool true)) [])], .n 1, .k [1, 2]] (by kernel_rfl) (Obs.of (by kernel_rfl) (erasureref01_Valid.spec e_2)) (erasureref01_Clean.p1.run h)
  · rw [if_neg (by decide)] at h
    exact RunC.go [.n 4, .r [(1, .call (.p (.bool false)) [])], .n 1, .k [2]] (by kernel_rfl) (Obs.of (by kernel_rfl) (erasureref01_Valid.spec e_2)) (erasureref01_Clean.p2.run h)
theorem erasureref01_Clean.p1.mono   : ∀ (k k' : Nat) (v1b : TValue) (v2b : TValue) (r : TValue), k ≤ k' → erasureref01_Clean.p1 k v1b v2b = some r → erasureref01_Clean.p1 k' v1b v2b = some r := by
  intro k k' v1b v2b r hk h
  unfold erasureref01_Clean.p1 at h ⊢
  exact h
theorem erasureref01_Clean.p2.mono   : ∀ (k k' : Nat) (v2b : TValue) (r : TValue), k ≤ k' → erasureref01_Clean.p2 k v2b = some r → erasureref01_Clean.p2 k' v2b = some r := by
  intro k k' v2b r hk h
  unfold erasureref01_Clean.p2 at h ⊢
  exact h
theorem erasureref01_Clean.mono   : ∀ (k k' : Nat) (v0 : TValue) (r : TValue), k ≤ k' → erasureref01_Clean k v0 = some r → erasureref01_Clean k' v0 = some r := by
  intro k k' v0 r hk h
  unfold erasureref01_Clean at h ⊢
  obtain ⟨y_1, e_2, h⟩ := bind_or h
  refine bnd (erasureref01_Valid.mono _ _ _ _ hk e_2) ?_
  rcases ite_or h with ⟨hb, h⟩ | ⟨hb, h⟩
  · refine itp hb ?_
    exact erasureref01_Clean.p1.mono _ _ _ _ r hk h
  · refine itn hb ?_
    exact erasureref01_Clean.p2.mono _ _ _ r hk h
theorem erasureref01_Clean.spec {k : Nat} {v0 : TValue} {r : TValue} (h : erasureref01_Clean k v0 = some r) : Spec Try.prog 16 [.agg ((cValue v0).map .p)] (.agg ((cValue r).map .p)) [] :=
  spec_of mix Try.func16 (body := bodyOf Try.f16) (by kernel_rfl) (by kernel_rfl) (erasureref01_Clean.run h)
end Go.Proofs.YtjhnpaenhdbhpabV
set_option linter.unusedVariables false
set_option linter.unusedSimpArgs false
set_option maxRecDepth 100000
namespace Go.Proofs.YtjhnpaenhdbhpabV
open Go Go.RowKit
noncomputable def erasureref01_Int  (k : Nat) (n0 : Int) : Option TValue := (erasureref01_Clean k (TValue.mk 1 n0 (⟨#[]⟩ : ByteArray))).bind fun y_1 => (some y_1)
noncomputable def erasureref01_Int.t : List Item := [.code (bodyOf Try.f18)]
noncomputable def erasureref01_Int.s (n0 : Int) : St := ⟨frOf Try.f18.ntmps 0 [(0, .p (.int .i64 n0))], []⟩
theorem erasureref01_Int.run   {k : Nat} {n0 : Int} {r : TValue} (h : erasureref01_Int k n0 = some r) : RunC Try.prog Try.f18 erasureref01_Int.t (erasureref01_Int.s n0) (.agg ((cValue r).map .p)) [] := by
  unfold erasureref01_Int at h
  obtain ⟨y_1, e_2, h⟩ := bind_or h
  obtain rfl := Option.some.inj h
  exact RunC.out [.n 3, .r [(2, .call (.agg ((cValue y_1).map .p)) [])]] (by kernel_rfl) (Obs.of (by kernel_rfl) (erasureref01_Clean.spec e_2))
theorem erasureref01_Int.mono   : ∀ (k k' : Nat) (n0 : Int) (r : TValue), k ≤ k' → erasureref01_Int k n0 = some r → erasureref01_Int k' n0 = some r := by
  intro k k' n0 r hk h
  unfold erasureref01_Int at h ⊢
  obtain ⟨y_1, e_2, h⟩ := bind_or h
  refine bnd (erasureref01_Clean.mono _ _ _ _ hk e_2) ?_
  exact h
theorem erasureref01_Int.spec {k : Nat} {n0 : Int} {r : TValue} (h : erasureref01_Int k n0 = some r) : Spec Try.prog 18 [.p (.int .i64 n0)] (.agg ((cValue r).map .p)) [] :=
  spec_of mix Try.func18 (body := bodyOf Try.f18) (by kernel_rfl) (by kernel_rfl) (erasureref01_Int.run h)
end Go.Proofs.YtjhnpaenhdbhpabV
set_option linter.unusedVariables false
set_option linter.unusedSimpArgs false
set_option maxRecDepth 100000
namespace Go.Proofs.YtjhnpaenhdbhpabV
open Go Go.RowKit
noncomputable def cmp_isNaN_int  (k : Nat) (x0 : Int) : Option Bool := some (x0 != x0)
noncomputable def cmp_isNaN_int.t : List Item := [.code (bodyOf Try.f70)]
noncomputable def cmp_isNaN_int.s (x0 : Int) : St := ⟨frOf Try.f70.ntmps 0 [(0, .p (.int .i64 x0))], []⟩
theorem cmp_isNaN_int.run   {k : Nat} {x0 : Int} {r : Bool} (h : cmp_isNaN_int k x0 = some r) : RunC Try.prog Try.f70 cmp_isNaN_int.t (cmp_isNaN_int.s x0) (.p (.bool r)) [] := by
  unfold cmp_isNaN_int at h
  obtain rfl := Option.some.inj h
  exact RunC.out [.n 4] (by kernel_rfl) (Obs.tt (by kernel_rfl))
theorem cmp_isNaN_int.mono   : ∀ (k k' : Nat) (x0 : Int) (r : Bool), k ≤ k' → cmp_isNaN_int k x0 = some r → cmp_isNaN_int k' x0 = some r := by
  intro k k' x0 r hk h
  unfold cmp_isNaN_int at h ⊢
  exact h
theorem cmp_isNaN_int.spec {k : Nat} {x0 : Int} {r : Bool} (h : cmp_isNaN_int k x0 = some r) : Spec Try.prog 70 [.p (.int .i64 x0)] (.p (.bool r)) [] :=
  spec_of mix Try.func70 (body := bodyOf Try.f70) (by kernel_rfl) (by kernel_rfl) (cmp_isNaN_int.run h)
end Go.Proofs.YtjhnpaenhdbhpabV
set_option linter.unusedVariables false
set_option linter.unusedSimpArgs false
set_option maxRecDepth 100000
namespace Go.Proofs.YtjhnpaenhdbhpabV
open Go Go.RowKit
noncomputable def cmp_Compare_int  (k : Nat) (x0 : Int) (y1 : Int) : Option Int := (cmp_isNaN_int k x0).bind fun y_1 => ((cmp_isNaN_int k y1).bind fun y_3 => (if y_1 = true then (if y_3 = true then (some 0) else (some (-1))) else (if y_3 = true then (some 1) else (if (decide (x0 < y1)) = true then (some (-1)) else (if (decide (x0 > y1)) = true then (some 1) else (some 0))))))
noncomputable def cmp_Compare_int.t : List Item := [.code (bodyOf Try.f59)]
noncomputable def cmp_Compare_int.s (x0 : Int) (y1 : Int) : St := ⟨frOf Try.f59.ntmps 0 [(0, .p (.int .i64 x0)), (1, .p (.int .i64 y1))], []⟩
theorem cmp_Compare_int.run   {k : Nat} {x0 : Int} {y1 : Int} {r : Int} (h : cmp_Compare_int k x0 y1 = some r) : RunC Try.prog Try.f59 cmp_Compare_int.t (cmp_Compare_int.s x0 y1) (.p (.int .i64 r)) [] := by
  unfold cmp_Compare_int at h
  obtain ⟨y_1, e_2, h⟩ := bind_or h
  obtain ⟨y_3, e_4, h⟩ := bind_or h
  rcases ite_or h with ⟨g_5, h⟩ | ⟨g_5, h⟩
  · rcases ite_or h with ⟨g_6, h⟩ | ⟨g_6, h⟩
    · obtain rfl := Option.some.inj h
      exact RunC.out [.n 3, .r [(1, .call (.p (.bool y_1)) [])], .n 1, .r [(1, .call (.p (.bool y_3)) [])], .n 2, .r [(0, .dec true)], .n 3, .r [(0, .dec true)], .n 3] (by kernel_rfl) (Obs.of (by kernel_rfl) (And.intro (cmp_isNaN_int.spec e_2) (And.intro (cmp_isNaN_int.spec e_4) (And.intro g_5 g_6))))
    · obtain rfl := Option.some.inj h
      exact RunC.out [.n 3, .r [(1, .call (.p (.bool y_1)) [])], .n 1, .r [(1, .call (.p (.bool y_3)) [])], .n 2, .r [(0, .dec true)], .n 3, .r [(0, .dec false)], .n 4] (by kernel_rfl) (Obs.of (by kernel_rfl) (And.intro (cmp_isNaN_int.spec e_2) (And.intro (cmp_isNaN_int.spec e_4) (And.intro g_5 (nt g_6)))))
  · rcases ite_or h with ⟨g_7, h⟩ | ⟨g_7, h⟩
    · obtain rfl := Option.some.inj h
      exact RunC.out [.n 3, .r [(1, .call (.p (.bool y_1)) [])], .n 1, .r [(1, .call (.p (.bool y_3)) [])], .n 2, .r [(0, .dec false)], .n 4, .r [(0, .dec true)], .n 3] (by kernel_rfl) (Obs.of (by kernel_rfl) (And.intro (cmp_isNaN_int.spec e_2) (And.intro (cmp_isNaN_int.spec e_4) (And.intro (nt g_5) g_7))))
    · rcases ite_or h with ⟨g_8, h⟩ | ⟨g_8, h⟩
      · obtain rfl := Option.some.inj h
        exact RunC.out [.n 3, .r [(1, .call (.p (.bool y_1)) [])], .n 1, .r [(1, .call (.p (.bool y_3)) [])], .n 2, .r [(0, .dec false)], .n 4, .r [(0, .dec false)], .n 4, .r [(2, .dec true)], .n 3] (by kernel_rfl) (Obs.of (by kernel_rfl) (And.intro (cmp_isNaN_int.spec e_2) (And.intro (cmp_isNaN_int.spec e_4) (And.intro (nt g_5) (And.intro (nt g_7) g_8)))))
      · rcases ite_or h with ⟨g_9, h⟩ | ⟨g_9, h⟩
        · obtain rfl := Option.some.inj h
          exact RunC.out [.n 3, .r [(1, .call (.p (.bool y_1)) [])], .n 1, .r [(1, .call (.p (.bool y_3)) [])], .n 2, .r [(0, .dec false)], .n 4, .r [(0, .dec false)], .n 4, .r [(2, .dec false)], .n 4, .r [(2, .dec true)], .n 3] (by kernel_rfl) (Obs.of (by kernel_rfl) (And.intro (cmp_isNaN_int.spec e_2) (And.intro (cmp_isNaN_int.spec e_4) (And.intro (nt g_5) (And.intro (nt g_7) (And.intro (nt g_8) g_9))))))
        · obtain rfl := Option.some.inj h
          exact RunC.out [.n 3, .r [(1, .call (.p (.bool y_1)) [])], .n 1, .r [(1, .call (.p (.bool y_3)) [])], .n 2, .r [(0, .dec false)], .n 4, .r [(0, .dec false)], .n 4, .r [(2, .dec false)], .n 4, .r [(2, .dec false)], .n 4] (by kernel_rfl) (Obs.of (by kernel_rfl) (And.intro (cmp_isNaN_int.spec e_2) (And.intro (cmp_isNaN_int.spec e_4) (And.intro (nt g_5) (And.intro (nt g_7) (And.intro (nt g_8) (nt g_9)))))))
theorem cmp_Compare_int.mono   : ∀ (k k' : Nat) (x0 : Int) (y1 : Int) (r : Int), k ≤ k' → cmp_Compare_int k x0 y1 = some r → cmp_Compare_int k' x0 y1 = some r := by
  intro k k' x0 y1 r hk h
  unfold cmp_Compare_int at h ⊢
  obtain ⟨y_1, e_2, h⟩ := bind_or h
  refine bnd (cmp_isNaN_int.mono _ _ _ _ hk e_2) ?_
  obtain ⟨y_3, e_4, h⟩ := bind_or h
  refine bnd (cmp_isNaN_int.mono _ _ _ _ hk e_4) ?_
  rcases ite_or h with ⟨g_5, h⟩ | ⟨g_5, h⟩
  · refine itp g_5 ?_
    rcases ite_or h with ⟨g_6, h⟩ | ⟨g_6, h⟩
    · refine itp g_6 ?_
      exact h
    · refine itn g_6 ?_
      exact h
  · refine itn g_5 ?_
    rcases ite_or h with ⟨g_7, h⟩ | ⟨g_7, h⟩
    · refine itp g_7 ?_
      exact h
    · refine itn g_7 ?_
      rcases ite_or h with ⟨g_8, h⟩ | ⟨g_8, h⟩
      · refine itp g_8 ?_
        exact h
      · refine itn g_8 ?_
        rcases ite_or h with ⟨g_9, h⟩ | ⟨g_9, h⟩
        · refine itp g_9 ?_
          exact h
        · refine itn g_9 ?_
          exact h
theorem cmp_Compare_int.spec {k : Nat} {x0 : Int} {y1 : Int} {r : Int} (h : cmp_Compare_int k x0 y1 = some r) : Spec Try.prog 59 [.p (.int .i64 x0), .p (.int .i64 y1)] (.p (.int .i64 r)) [] :=
  spec_of mix Try.func59 (body := bodyOf Try.f59) (by kernel_rfl) (by kernel_rfl) (cmp_Compare_int.run h)
end Go.Proofs.YtjhnpaenhdbhpabV
set_option linter.unusedVariables false
set_option linter.unusedSimpArgs false
set_option maxRecDepth 100000
namespace Go.Proofs.YtjhnpaenhdbhpabV
open Go Go.RowKit
noncomputable def cmp_isNaN_int64  (k : Nat) (x0 : Int) : Option Bool := some (x0 != x0)
noncomputable def cmp_isNaN_int64.t : List Item := [.code (bodyOf Try.f71)]
noncomputable def cmp_isNaN_int64.s (x0 : Int) : St := ⟨frOf Try.f71.ntmps 0 [(0, .p (.int .i64 x0))], []⟩
theorem cmp_isNaN_int64.run   {k : Nat} {x0 : Int} {r : Bool} (h : cmp_isNaN_int64 k x0 = some r) : RunC Try.prog Try.f71 cmp_isNaN_int64.t (cmp_isNaN_int64.s x0) (.p (.bool r)) [] := by
  unfold cmp_isNaN_int64 at h
  obtain rfl := Option.some.inj h
  exact RunC.out [.n 4] (by kernel_rfl) (Obs.tt (by kernel_rfl))
theorem cmp_isNaN_int64.mono   : ∀ (k k' : Nat) (x0 : Int) (r : Bool), k ≤ k' → cmp_isNaN_int64 k x0 = some r → cmp_isNaN_int64 k' x0 = some r := by
  intro k k' x0 r hk h
  unfold cmp_isNaN_int64 at h ⊢
  exact h
theorem cmp_isNaN_int64.spec {k : Nat} {x0 : Int} {r : Bool} (h : cmp_isNaN_int64 k x0 = some r) : Spec Try.prog 71 [.p (.int .i64 x0)] (.p (.bool r)) [] :=
  spec_of mix Try.func71 (body := bodyOf Try.f71) (by kernel_rfl) (by kernel_rfl) (cmp_isNaN_int64.run h)
end Go.Proofs.YtjhnpaenhdbhpabV
set_option linter.unusedVariables false
set_option linter.unusedSimpArgs false
set_option maxRecDepth 100000
namespace Go.Proofs.YtjhnpaenhdbhpabV
open Go Go.RowKit
noncomputable def cmp_Compare_int64  (k : Nat) (x0 : Int) (y1 : Int) : Option Int := (cmp_isNaN_int64 k x0).bind fun y_1 => ((cmp_isNaN_int64 k y1).bind fun y_3 => (if y_1 = true then (if y_3 = true then (some 0) else (some (-1))) else (if y_3 = true then (some 1) else (if (decide (x0 < y1)) = true then (some (-1)) else (if (decide (x0 > y1)) = true then (some 1) else (some 0))))))
noncomputable def cmp_Compare_int64.t : List Item := [.code (bodyOf Try.f60)]
noncomputable def cmp_Compare_int64.s (x0 : Int) (y1 : Int) : St := ⟨frOf Try.f60.ntmps 0 [(0, .p (.int .i64 x0)), (1, .p (.int .i64 y1))], []⟩
theorem cmp_Compare_int64.run   {k : Nat} {x0 : Int} {y1 : Int} {r : Int} (h : cmp_Compare_int64 k x0 y1 = some r) : RunC Try.prog Try.f60 cmp_Compare_int64.t (cmp_Compare_int64.s x0 y1) (.p (.int .i64 r)) [] := by
  unfold cmp_Compare_int64 at h
  obtain ⟨y_1, e_2, h⟩ := bind_or h
  obtain ⟨y_3, e_4, h⟩ := bind_or h
  rcases ite_or h with ⟨g_5, h⟩ | ⟨g_5, h⟩
  · rcases ite_or h with ⟨g_6, h⟩ | ⟨g_6, h⟩
    · obtain rfl := Option.some.inj h
      exact RunC.out [.n 3, .r [(1, .call (.p (.bool y_1)) [])], .n 1, .r [(1, .call (.p (.bool y_3)) [])], .n 2, .r [(0, .dec true)], .n 3, .r [(0, .dec true)], .n 3] (by kernel_rfl) (Obs.of (by kernel_rfl) (And.intro (cmp_isNaN_int64.spec e_2) (And.intro (cmp_isNaN_int64.spec e_4) (And.intro g_5 g_6))))
    · obtain rfl := Option.some.inj h
      exact RunC.out [.n 3, .r [(1, .call (.p (.bool y_1)) [])], .n 1, .r [(1, .call (.p (.bool y_3)) [])], .n 2, .r [(0, .dec true)], .n 3, .r [(0, .dec false)], .n 4] (by kernel_rfl) (Obs.of (by kernel_rfl) (And.intro (cmp_isNaN_int64.spec e_2) (And.intro (cmp_isNaN_int64.spec e_4) (And.intro g_5 (nt g_6)))))
  · rcases ite_or h with ⟨g_7, h⟩ | ⟨g_7, h⟩
    · obtain rfl := Option.some.inj h
      exact RunC.out [.n 3, .r [(1, .call (.p (.bool y_1)) [])], .n 1, .r [(1, .call (.p (.bool y_3)) [])], .n 2, .r [(0, .dec false)], .n 4, .r [(0, .dec true)], .n 3] (by kernel_rfl) (Obs.of (by kernel_rfl) (And.intro (cmp_isNaN_int64.spec e_2) (And.intro (cmp_isNaN_int64.spec e_4) (And.intro (nt g_5) g_7))))
    · rcases ite_or h with ⟨g_8, h⟩ | ⟨g_8, h⟩
      · obtain rfl := Option.some.inj h
        exact RunC.out [.n 3, .r [(1, .call (.p (.bool y_1)) [])], .n 1, .r [(1, .call (.p (.bool y_3)) [])], .n 2, .r [(0, .dec false)], .n 4, .r [(0, .dec false)], .n 4, .r [(2, .dec true)], .n 3] (by kernel_rfl) (Obs.of (by kernel_rfl) (And.intro (cmp_isNaN_int64.spec e_2) (And.intro (cmp_isNaN_int64.spec e_4) (And.intro (nt g_5) (And.intro (nt g_7) g_8)))))
      · rcases ite_or h with ⟨g_9, h⟩ | ⟨g_9, h⟩
        · obtain rfl := Option.some.inj h
          exact RunC.out [.n 3, .r [(1, .call (.p (.bool y_1)) [])], .n 1, .r [(1, .call (.p (.bool y_3)) [])], .n 2, .r [(0, .dec false)], .n 4, .r [(0, .dec false)], .n 4, .r [(2, .dec false)], .n 4, .r [(2, .dec true)], .n 3] (by kernel_rfl) (Obs.of (by kernel_rfl) (And.intro (cmp_isNaN_int64.spec e_2) (And.intro (cmp_isNaN_int64.spec e_4) (And.intro (nt g_5) (And.intro (nt g_7) (And.intro (nt g_8) g_9))))))
        · obtain rfl := Option.some.inj h
          exact RunC.out [.n 3, .r [(1, .call (.p (.bool y_1)) [])], .n 1, .r [(1, .call (.p (.bool y_3)) [])], .n 2, .r [(0, .dec false)], .n 4, .r [(0, .dec false)], .n 4, .r [(2, .dec false)], .n 4, .r [(2, .dec false)], .n 4] (by kernel_rfl) (Obs.of (by kernel_rfl) (And.intro (cmp_isNaN_int64.spec e_2) (And.intro (cmp_isNaN_int64.spec e_4) (And.intro (nt g_5) (And.intro (nt g_7) (And.intro (nt g_8) (nt g_9)))))))
theorem cmp_Compare_int64.mono   : ∀ (k k' : Nat) (x0 : Int) (y1 : Int) (r : Int), k ≤ k' → cmp_Compare_int64 k x0 y1 = some r → cmp_Compare_int64 k' x0 y1 = some r := by
  intro k k' x0 y1 r hk h
  unfold cmp_Compare_int64 at h ⊢
  obtain ⟨y_1, e_2, h⟩ := bind_or h
  refine bnd (cmp_isNaN_int64.mono _ _ _ _ hk e_2) ?_
  obtain ⟨y_3, e_4, h⟩ := bind_or h
  refine bnd (cmp_isNaN_int64.mono _ _ _ _ hk e_4) ?_
  rcases ite_or h with ⟨g_5, h⟩ | ⟨g_5, h⟩
  · refine itp g_5 ?_
    rcases ite_or h with ⟨g_6, h⟩ | ⟨g_6, h⟩
    · refine itp g_6 ?_
      exact h
    · refine itn g_6 ?_
      exact h
  · refine itn g_5 ?_
    rcases ite_or h with ⟨g_7, h⟩ | ⟨g_7, h⟩
    · refine itp g_7 ?_
      exact h
    · refine itn g_7 ?_
      rcases ite_or h with ⟨g_8, h⟩ | ⟨g_8, h⟩
      · refine itp g_8 ?_
        exact h
      · refine itn g_8 ?_
        rcases ite_or h with ⟨g_9, h⟩ | ⟨g_9, h⟩
        · refine itp g_9 ?_
          exact h
        · refine itn g_9 ?_
          exact h
theorem cmp_Compare_int64.spec {k : Nat} {x0 : Int} {y1 : Int} {r : Int} (h : cmp_Compare_int64 k x0 y1 = some r) : Spec Try.prog 60 [.p (.int .i64 x0), .p (.int .i64 y1)] (.p (.int .i64 r)) [] :=
  spec_of mix Try.func60 (body := bodyOf Try.f60) (by kernel_rfl) (by kernel_rfl) (cmp_Compare_int64.run h)
end Go.Proofs.YtjhnpaenhdbhpabV
set_option linter.unusedVariables false
set_option linter.unusedSimpArgs false
set_option maxRecDepth 100000
namespace Go.Proofs.YtjhnpaenhdbhpabV
open Go Go.RowKit
noncomputable def cmp_isNaN_string  (k : Nat) (x0 : ByteArray) : Option Bool := some (!(x0.data.toList == x0.data.toList))
noncomputable def cmp_isNaN_string.t : List Item := [.code (bodyOf Try.f72)]
noncomputable def cmp_isNaN_string.s (x0 : ByteArray) : St := ⟨frOf Try.f72.ntmps 0 [(0, .p (.str x0))], []⟩
theorem cmp_isNaN_string.run   {k : Nat} {x0 : ByteArray} {r : Bool} (h : cmp_isNaN_string k x0 = some r) : RunC Try.prog Try.f72 cmp_isNaN_string.t (cmp_isNaN_string.s x0) (.p (.bool r)) [] := by
  unfold cmp_isNaN_string at h
  obtain rfl := Option.some.inj h
  exact RunC.out [.n 4] (by kernel_rfl) (Obs.tt (by kernel_rfl))
theorem cmp_isNaN_string.mono   : ∀ (k k' : Nat) (x0 : ByteArray) (r : Bool), k ≤ k' → cmp_isNaN_string k x0 = some r → cmp_isNaN_string k' x0 = some r := by
  intro k k' x0 r hk h
  unfold cmp_isNaN_string at h ⊢
  exact h
theorem cmp_isNaN_string.spec {k : Nat} {x0 : ByteArray} {r : Bool} (h : cmp_isNaN_string k x0 = some r) : Spec Try.prog 72 [.p (.str x0)] (.p (.bool r)) [] :=
  spec_of mix Try.func72 (body := bodyOf Try.f72) (by kernel_rfl) (by kernel_rfl) (cmp_isNaN_string.run h)
end Go.Proofs.YtjhnpaenhdbhpabV
set_option linter.unusedVariables false
set_option linter.unusedSimpArgs false
set_option maxRecDepth 100000
namespace Go.Proofs.YtjhnpaenhdbhpabV
open Go Go.RowKit
noncomputable def cmp_Compare_string  (k : Nat) (x0 : ByteArray) (y1 : ByteArray) : Option Int := (cmp_isNaN_string k x0).bind fun y_1 => ((cmp_isNaN_string k y1).bind fun y_3 => (if y_1 = true then (if y_3 = true then (some 0) else (some (-1))) else (if y_3 = true then (some 1) else (if (Op.bytesLess x0.data.toList y1.data.toList) = true then (some (-1)) else (if (!((Op.bytesLess x0.data.toList y1.data.toList) || (x0.data.toList == y1.data.toList))) = true then (some 1) else (some 0))))))
noncomputable def cmp_Compare_string.t : List Item := [.code (bodyOf Try.f61)]
noncomputable def cmp_Compare_string.s (x0 : ByteArray) (y1 : ByteArray) : St := ⟨frOf Try.f61.ntmps 0 [(0, .p (.str x0)), (1, .p (.str y1))], []⟩
theorem cmp_Compare_string.run   {k : Nat} {x0 : ByteArray} {y1 : ByteArray} {r : Int} (h : cmp_Compare_string k x0 y1 = some r) : RunC Try.prog Try.f61 cmp_Compare_string.t (cmp_Compare_string.s x0 y1) (.p (.int .i64 r)) [] := by
  unfold cmp_Compare_string at h
  obtain ⟨y_1, e_2, h⟩ := bind_or h
  obtain ⟨y_3, e_4, h⟩ := bind_or h
  rcases ite_or h with ⟨g_5, h⟩ | ⟨g_5, h⟩
  · rcases ite_or h with ⟨g_6, h⟩ | ⟨g_6, h⟩
    · obtain rfl := Option.some.inj h
      exact RunC.out [.n 3, .r [(1, .call (.p (.bool y_1)) [])], .n 1, .r [(1, .call (.p (.bool y_3)) [])], .n 2, .r [(0, .dec true)], .n 3, .r [(0, .dec true)], .n 3] (by kernel_rfl) (Obs.of (by kernel_rfl) (And.intro (cmp_isNaN_string.spec e_2) (And.intro (cmp_isNaN_string.spec e_4) (And.intro g_5 g_6))))
    · obtain rfl := Option.some.inj h
      exact RunC.out [.n 3, .r [(1, .call (.p (.bool y_1)) [])], .n 1, .r [(1, .call (.p (.bool y_3)) [])], .n 2, .r [(0, .dec true)], .n 3, .r [(0, .dec false)], .n 4] (by kernel_rfl) (Obs.of (by kernel_rfl) (And.intro (cmp_isNaN_string.spec e_2) (And.intro (cmp_isNaN_string.spec e_4) (And.intro g_5 (nt g_6)))))
  · rcases ite_or h with ⟨g_7, h⟩ | ⟨g_7, h⟩
    · obtain rfl := Option.some.inj h
      exact RunC.out [.n 3, .r [(1, .call (.p (.bool y_1)) [])], .n 1, .r [(1, .call (.p (.bool y_3)) [])], .n 2, .r [(0, .dec false)], .n 4, .r [(0, .dec true)], .n 3] (by kernel_rfl) (Obs.of (by kernel_rfl) (And.intro (cmp_isNaN_string.spec e_2) (And.intro (cmp_isNaN_string.spec e_4) (And.intro (nt g_5) g_7))))
    · rcases ite_or h with ⟨g_8, h⟩ | ⟨g_8, h⟩
      · obtain rfl := Option.some.inj h
        exact RunC.out [.n 3, .r [(1, .call (.p (.bool y_1)) [])], .n 1, .r [(1, .call (.p (.bool y_3)) [])], .n 2, .r [(0, .dec false)], .n 4, .r [(0, .dec false)], .n 4, .r [(2, .dec true)], .n 3] (by kernel_rfl) (Obs.of (by kernel_rfl) (And.intro (cmp_isNaN_string.spec e_2) (And.intro (cmp_isNaN_string.spec e_4) (And.intro (nt g_5) (And.intro (nt g_7) g_8)))))
      · rcases ite_or h with ⟨g_9, h⟩ | ⟨g_9, h⟩
        · obtain rfl := Option.some.inj h
          exact RunC.out [.n 3, .r [(1, .call (.p (.bool y_1)) [])], .n 1, .r [(1, .call (.p (.bool y_3)) [])], .n 2, .r [(0, .dec false)], .n 4, .r [(0, .dec false)], .n 4, .r [(2, .dec false)], .n 4, .r [(2, .dec true)], .n 3] (by kernel_rfl) (Obs.of (by kernel_rfl) (And.intro (cmp_isNaN_string.spec e_2) (And.intro (cmp_isNaN_string.spec e_4) (And.intro (nt g_5) (And.intro (nt g_7) (And.intro (nt g_8) g_9))))))
        · obtain rfl := Option.some.inj h
          exact RunC.out [.n 3, .r [(1, .call (.p (.bool y_1)) [])], .n 1, .r [(1, .call (.p (.bool y_3)) [])], .n 2, .r [(0, .dec false)], .n 4, .r [(0, .dec false)], .n 4, .r [(2, .dec false)], .n 4, .r [(2, .dec false)], .n 4] (by kernel_rfl) (Obs.of (by kernel_rfl) (And.intro (cmp_isNaN_string.spec e_2) (And.intro (cmp_isNaN_string.spec e_4) (And.intro (nt g_5) (And.intro (nt g_7) (And.intro (nt g_8) (nt g_9)))))))
theorem cmp_Compare_string.mono   : ∀ (k k' : Nat) (x0 : ByteArray) (y1 : ByteArray) (r : Int), k ≤ k' → cmp_Compare_string k x0 y1 = some r → cmp_Compare_string k' x0 y1 = some r := by
  intro k k' x0 y1 r hk h
  unfold cmp_Compare_string at h ⊢
  obtain ⟨y_1, e_2, h⟩ := bind_or h
  refine bnd (cmp_isNaN_string.mono _ _ _ _ hk e_2) ?_
  obtain ⟨y_3, e_4, h⟩ := bind_or h
  refine bnd (cmp_isNaN_string.mono _ _ _ _ hk e_4) ?_
  rcases ite_or h with ⟨g_5, h⟩ | ⟨g_5, h⟩
  · refine itp g_5 ?_
    rcases ite_or h with ⟨g_6, h⟩ | ⟨g_6, h⟩
    · refine itp g_6 ?_
      exact h
    · refine itn g_6 ?_
      exact h
  · refine itn g_5 ?_
    rcases ite_or h with ⟨g_7, h⟩ | ⟨g_7, h⟩
    · refine itp g_7 ?_
      exact h
    · refine itn g_7 ?_
      rcases ite_or h with ⟨g_8, h⟩ | ⟨g_8, h⟩
      · refine itp g_8 ?_
        exact h
      · refine itn g_8 ?_
        rcases ite_or h with ⟨g_9, h⟩ | ⟨g_9, h⟩
        · refine itp g_9 ?_
          exact h
        · refine itn g_9 ?_
          exact h
theorem cmp_Compare_string.spec {k : Nat} {x0 : ByteArray} {y1 : ByteArray} {r : Int} (h : cmp_Compare_string k x0 y1 = some r) : Spec Try.prog 61 [.p (.str x0), .p (.str y1)] (.p (.int .i64 r)) [] :=
  spec_of mix Try.func61 (body := bodyOf Try.f61) (by kernel_rfl) (by kernel_rfl) (cmp_Compare_string.run h)
end Go.Proofs.YtjhnpaenhdbhpabV
set_option linter.unusedVariables false
set_option linter.unusedSimpArgs false
set_option maxRecDepth 100000
namespace Go.Proofs.YtjhnpaenhdbhpabV
open Go Go.RowKit
noncomputable def value_Compare  (k : Nat) (a0 : TValue) (b1 : TValue) : Option Int := (value_Clean k a0).bind fun y_1 => ((value_Clean k b1).bind fun y_3 => (if (y_1.f0 != y_3.f0) = true then ((cmp_Compare_int k y_1.f0 y_3.f0).bind fun y_6 => (some y_6)) else (if (y_1.f0 == 1) = true then ((cmp_Compare_int64 k y_1.f1 y_3.f1).bind fun y_9 => (some y_9)) else ((cmp_Compare_string k y_1.f2 y_3.f2).bind fun y_11 => (some y_11)))))
noncomputable def value_Compare.t : List Item := [.code (bodyOf Try.f43)]
noncomputable def value_Compare.s (a0 : TValue) (b1 : TValue) : St := ⟨frOf Try.f43.ntmps 0 [(0, .agg ((cValue a0).map .p)), (1, .agg ((cValue b1).map .p))], []⟩
theorem value_Compare.run   {k : Nat} {a0 : TValue} {b1 : TValue} {r : Int} (h : value_Compare k a0 b1 = some r) : RunC Try.prog Try.f43 value_Compare.t (value_Compare.s a0 b1) (.p (.int .i64 r)) [] := by
  unfold value_Compare at h
  obtain ⟨y_1, e_2, h⟩ := bind_or h
  obtain ⟨y_3, e_4, h⟩ := bind_or h
  rcases ite_or h with ⟨g_5, h⟩ | ⟨g_5, h⟩
  · obtain ⟨y_6, e_7, h⟩ := bind_or h
    obtain rfl := Option.some.inj h
    exact RunC.out [.n 3, .r [(1, .call (.agg ((cValue y_1).map .p)) []), (3, .call (.agg ((cValue y_3).map .p)) [])], .n 2, .r [(4, .dec true)], .n 2, .r [(4, .call (.p (.int .i64 y_6)) [])]] (by kernel_rfl) (Obs.of (by kernel_rfl) (And.intro (value_Clean.spec e_2) (And.intro (value_Clean.spec e_4) (And.intro g_5 (cmp_Compare_int.spec e_7)))))
  · rcases ite_or h with ⟨g_8, h⟩ | ⟨g_8, h⟩
    · obtain ⟨y_9, e_10, h⟩ := bind_or h
      obtain rfl := Option.some.inj h
      exact RunC.out [.n 3, .r [(1, .call (.agg ((cValue y_1).map .p)) []), (3, .call (.agg ((cValue y_3).map .p)) [])], .n 2, .r [(4, .dec false)], .n 4, .r [(2, .dec true)], .n 2, .r [(4, .call (.p (.int .i64 y_9)) [])]] (by kernel_rfl) (Obs.of (by kernel_rfl) (And.intro (value_Clean.spec e_2) (And.intro (value_Clean.spec e_4) (And.intro (nt g_5) (And.intro g_8 (cmp_Compare_int64.spec e_10))))))
    · obtain ⟨y_11, e_12, h⟩ := bind_or h
      obtain rfl := Option.some.inj h
      exact RunC.out [.n 3, .r [(1, .call (.agg ((cValue y_1).map .p)) []), (3, .call (.agg ((cValue y_3).map .p)) [])], .n 2, .r [(4, .dec false)], .n 4, .r [(2, .dec false)], .n 3, .r [(4, .call (.p (.int .i64 y_11)) [])]] (by kernel_rfl) (Obs.of (by kernel_rfl) (And.intro (value_Clean.spec e_2) (And.intro (value_Clean.spec e_4) (And.intro (nt g_5) (And.intro (nt g_8) (cmp_Compare_string.spec e_12))))))
theorem value_Compare.mono   : ∀ (k k' : Nat) (a0 : TValue) (b1 : TValue) (r : Int), k ≤ k' → value_Compare k a0 b1 = some r → value_Compare k' a0 b1 = some r := by
  intro k k' a0 b1 r hk h
  unfold value_Compare at h ⊢
  obtain ⟨y_1, e_2, h⟩ := bind_or h
  refine bnd (value_Clean.mono _ _ _ _ hk e_2) ?_
  obtain ⟨y_3, e_4, h⟩ := bind_or h
  refine bnd (value_Clean.mono _ _ _ _ hk e_4) ?_
  rcases ite_or h with ⟨g_5, h⟩ | ⟨g_5, h⟩
  · refine itp g_5 ?_
    obtain ⟨y_6, e_7, h⟩ := bind_or h
    refine bnd (cmp_Compare_int.mono _ _ _ _ _ hk e_7) ?_
    exact h
  · refine itn g_5 ?_
    rcases ite_or h with ⟨g_8, h⟩ | ⟨g_8, h⟩
    · refine itp g_8 ?_
      obtain ⟨y_9, e_10, h⟩ := bind_or h
      refine bnd (cmp_Compare_int64.mono _ _ _ _ _ hk e_10) ?_
      exact h
    · refine itn g_8 ?_
      obtain ⟨y_11, e_12, h⟩ := bind_or h
      refine bnd (cmp_Compare_string.mono _ _ _ _ _ hk e_12) ?_
      exact h
theorem value_Compare.spec {k : Nat} {a0 : TValue} {b1 : TValue} {r : Int} (h : value_Compare k a0 b1 = some r) : Spec Try.prog 43 [.agg ((cValue a0).map .p), .agg ((cValue b1).map .p)] (.p (.int .i64 r)) [] :=
  spec_of mix Try.func43 (body := bodyOf Try.f43) (by kernel_rfl) (by kernel_rfl) (value_Compare.run h)
end Go.Proofs.YtjhnpaenhdbhpabV
set_option linter.unusedVariables false
set_option linter.unusedSimpArgs false
set_option maxRecDepth 100000
namespace Go.Proofs.YtjhnpaenhdbhpabV
open Go Go.RowKit
noncomputable def value_ValidRow.p1  : Nat → (List TValue) → (List TValue) → Int → Int → Option Bool
  | 0, _, _, _, _ => none
  | k + 1, r0, v5, v6, v7 => if (decide (v7 < v6)) = true then (if 0 ≤ v7 ∧ v7 < ((v5).length : Int) then ((value_Valid k (v5.getD v7.toNat dValue)).bind fun y_3 => (if (!y_3) = true then (some false) else (value_ValidRow.p1 k r0 v5 v6 (IntKind.i64.wrap (v7 + 1))))) else none) else (some (decide (((r0).length : Int) ≤ 16)))
noncomputable def value_ValidRow  (k : Nat) (r0 : (List TValue)) : Option Bool := value_ValidRow.p1 k r0 r0 ((r0).length : Int) 0
noncomputable def value_ValidRow.t : List Item := [.code (bodyOf Try.f73)]
noncomputable def value_ValidRow.s (r0 : (List TValue)) : St := ⟨frOf Try.f73.ntmps 0 [(0, .p (eL 3 cValue dValue r0))], []⟩
noncomputable def value_ValidRow.p1.t : List Item := nav 7 [] value_ValidRow.t
noncomputable def value_ValidRow.p1.s (r0 : (List TValue)) (v5 : (List TValue)) (v6 : Int) (v7 : Int) : St := ⟨frOf Try.f73.ntmps 0 [(0, .p (eL 3 cValue dValue r0)), (5, .p (eL 3 cValue dValue v5)), (6, .p (.int .i64 v6)), (7, .p (.int .i64 v7))], []⟩
theorem value_ValidRow.p1.run   : ∀ (k : Nat) (r0 : (List TValue)) (v5 : (List TValue)) (v6 : Int) (v7 : Int) (r : Bool), value_ValidRow.p1 k r0 v5 v6 v7 = some r → RunC Try.prog Try.f73 value_ValidRow.p1.t (value_ValidRow.p1.s r0 v5 v6 v7) (.p (.bool r)) [] := by
  intro k
  induction k with
  | zero => intro r0 v5 v6 v7 r h; simp [value_ValidRow.p1] at h
  | succ k ih =>
    intro r0 v5 v6 v7 r h
    rw [value_ValidRow.p1] at h
    rcases ite_or h with ⟨g_1, h⟩ | ⟨g_1, h⟩
    · obtain ⟨g_2, h⟩ := ite_some h
      obtain ⟨y_3, e_4, h⟩ := bind_or h
      rcases ite_or h with ⟨g_5, h⟩ | ⟨g_5, h⟩
      · obtain rfl := Option.some.inj h
        exact RunC.out [.n 1, .r [(0, .dec true)], .n 8, .r [(1, .call (.p (.bool y_3)) []), (2, .dec true)], .n 3] (by kernel_rfl) (Obs.of (by kernel_rfl) (And.intro g_1 (And.intro g_2 (And.intro (value_Valid.spec e_4) g_5))))
      · exact RunC.go [.n 1, .r [(0, .dec true)], .n 8, .r [(1, .call (.p (.bool y_3)) []), (2, .dec false)], .n 5, .k [0, 5, 6, 7]] (by kernel_rfl) (Obs.of (by kernel_rfl) (And.intro g_1 (And.intro g_2 (And.intro (value_Valid.spec e_4) (nt g_5))))) (ih _ _ _ _ r h)
    · obtain rfl := Option.some.inj h
      exact RunC.out [.n 1, .r [(0, .dec false)], .n 5] (by kernel_rfl) (Obs.of (by kernel_rfl) (nt g_1))
theorem value_ValidRow.run   {k : Nat} {r0 : (List TValue)} {r : Bool} (h : value_ValidRow k r0 = some r) : RunC Try.prog Try.f73 value_ValidRow.t (value_ValidRow.s r0) (.p (.bool r)) [] := by
  unfold value_ValidRow at h
  exact RunC.go [.n 7, .k [0, 5, 6, 7]] (by kernel_rfl) (Obs.tt (by kernel_rfl)) (value_ValidRow.p1.run k _ _ _ _ r h)
theorem value_ValidRow.p1.mono   : ∀ (k k' : Nat) (r0 : (List TValue)) (v5 : (List TValue)) (v6 : Int) (v7 : Int) (r : Bool), k ≤ k' → value_ValidRow.p1 k r0 v5 v6 v7 = some r → value_ValidRow.p1 k' r0 v5 v6 v7 = some r := by
  intro k
  induction k with
  | zero => intro k' r0 v5 v6 v7 r hk h; simp [value_ValidRow.p1] at h
  | succ k ih =>
    intro k' r0 v5 v6 v7 r hk h
    obtain ⟨k', rfl⟩ : ∃ m, k' = m + 1 := ⟨k' - 1, by omega⟩
    replace hk := Nat.le_of_succ_le_succ hk
    rw [value_ValidRow.p1] at h ⊢
    rcases ite_or h with ⟨g_1, h⟩ | ⟨g_1, h⟩
    · refine itp g_1 ?_
      obtain ⟨g_2, h⟩ := ite_some h
      refine itp g_2 ?_
      obtain ⟨y_3, e_4, h⟩ := bind_or h
      refine bnd (value_Valid.mono _ _ _ _ hk e_4) ?_
      rcases ite_or h with ⟨g_5, h⟩ | ⟨g_5, h⟩
      · refine itp g_5 ?_
        exact h
      · refine itn g_5 ?_
        exact ih _ _ _ _ _ r hk h
    · refine itn g_1 ?_
      exact h
theorem value_ValidRow.mono   : ∀ (k k' : Nat) (r0 : (List TValue)) (r : Bool), k ≤ k' → value_ValidRow k r0 = some r → value_ValidRow k' r0 = some r := by
  intro k k' r0 r hk h
  unfold value_ValidRow at h ⊢
  exact value_ValidRow.p1.mono _ _ _ _ _ _ r hk h
theorem value_ValidRow.spec {k : Nat} {r0 : (List TValue)} {r : Bool} (h : value_ValidRow k r0 = some r) : Spec Try.prog 73 [.p (eL 3 cValue dValue r0)] (.p (.bool r)) [] :=
  spec_of mix Try.func73 (body := bodyOf Try.f73) (by kernel_rfl) (by kernel_rfl) (value_ValidRow.run h)
end Go.Proofs.YtjhnpaenhdbhpabV
set_option linter.unusedVariables false
set_option linter.unusedSimpArgs false
set_option maxRecDepth 100000
namespace Go.Proofs.YtjhnpaenhdbhpabV
open Go Go.RowKit
noncomputable def bag_countFits  (k : Nat) (n0 : Int) : Option Bool := if (decide (n0 ≥ (-262144))) = true then (some (decide (n0 ≤ 262144))) else (some false)
noncomputable def bag_countFits.t : List Item := [.code (bodyOf Try.f74)]
noncomputable def bag_countFits.s (n0 : Int) : St := ⟨frOf Try.f74.ntmps 0 [(0, .p (.int .i64 n0))], []⟩
theorem bag_countFits.run   {k : Nat} {n0 : Int} {r : Bool} (h : bag_countFits k n0 = some r) : RunC Try.prog Try.f74 bag_countFits.t (bag_countFits.s n0) (.p (.bool r)) [] := by
  unfold bag_countFits at h
  rcases ite_or h with ⟨g_1, h⟩ | ⟨g_1, h⟩
  · obtain rfl := Option.some.inj h
    exact RunC.out [.n 3, .r [(2, .dec true)]] (by kernel_rfl) (Obs.of (by kernel_rfl) g_1)
  · obtain rfl := Option.some.inj h
    exact RunC.out [.n 3, .r [(2, .dec false)]] (by kernel_rfl) (Obs.of (by kernel_rfl) (nt g_1))
theorem bag_countFits.mono   : ∀ (k k' : Nat) (n0 : Int) (r : Bool), k ≤ k' → bag_countFits k n0 = some r → bag_countFits k' n0 = some r := by
  intro k k' n0 r hk h
  unfold bag_countFits at h ⊢
  rcases ite_or h with ⟨g_1, h⟩ | ⟨g_1, h⟩
  · refine itp g_1 ?_
    exact h
  · refine itn g_1 ?_
    exact h
theorem bag_countFits.spec {k : Nat} {n0 : Int} {r : Bool} (h : bag_countFits k n0 = some r) : Spec Try.prog 74 [.p (.int .i64 n0)] (.p (.bool r)) [] :=
  spec_of mix Try.func74 (body := bodyOf Try.f74) (by kernel_rfl) (by kernel_rfl) (bag_countFits.run h)
end Go.Proofs.YtjhnpaenhdbhpabV
set_option linter.unusedVariables false
set_option linter.unusedSimpArgs false
set_option maxRecDepth 100000
namespace Go.Proofs.YtjhnpaenhdbhpabV
open Go Go.RowKit
noncomputable def bag_entryFits  (k : Nat) (e0 : TEntry) : Option Bool := (value_ValidRow k e0.f0).bind fun y_1 => (if y_1 = true then ((bag_countFits k e0.f1).bind fun y_4 => (some y_4)) else (some false))
noncomputable def bag_entryFits.t : List Item := [.code (bodyOf Try.f64)]
noncomputable def bag_entryFits.s (e0 : TEntry) : St := ⟨frOf Try.f64.ntmps 0 [(0, .agg ((cEntry e0).map .p))], []⟩
theorem bag_entryFits.run   {k : Nat} {e0 : TEntry} {r : Bool} (h : bag_entryFits k e0 = some r) : RunC Try.prog Try.f64 bag_entryFits.t (bag_entryFits.s e0) (.p (.bool r)) [] := by
  unfold bag_entryFits at h
  obtain ⟨y_1, e_2, h⟩ := bind_or h
  rcases ite_or h with ⟨g_3, h⟩ | ⟨g_3, h⟩
  · obtain ⟨y_4, e_5, h⟩ := bind_or h
    obtain rfl := Option.some.inj h
    exact RunC.out [.n 3, .r [(2, .call (.p (.bool y_1)) []), (3, .dec true), (6, .call (.p (.bool y_4)) [])]] (by kernel_rfl) (Obs.of (by kernel_rfl) (And.intro (value_ValidRow.spec e_2) (And.intro g_3 (bag_countFits.spec e_5))))
  · obtain rfl := Option.some.inj h
    exact RunC.out [.n 3, .r [(2, .call (.p (.bool y_1)) []), (3, .dec false)]] (by kernel_rfl) (Obs.of (by kernel_rfl) (And.intro (value_ValidRow.spec e_2) (nt g_3)))
theorem bag_entryFits.mono   : ∀ (k k' : Nat) (e0 : TEntry) (r : Bool), k ≤ k' → bag_entryFits k e0 = some r → bag_entryFits k' e0 = some r := by
  intro k k' e0 r hk h
  unfold bag_entryFits at h ⊢
  obtain ⟨y_1, e_2, h⟩ := bind_or h
  refine bnd (value_ValidRow.mono _ _ _ _ hk e_2) ?_
  rcases ite_or h with ⟨g_3, h⟩ | ⟨g_3, h⟩
  · refine itp g_3 ?_
    obtain ⟨y_4, e_5, h⟩ := bind_or h
    refine bnd (bag_countFits.mono _ _ _ _ hk e_5) ?_
    exact h
  · refine itn g_3 ?_
    exact h
theorem bag_entryFits.spec {k : Nat} {e0 : TEntry} {r : Bool} (h : bag_entryFits k e0 = some r) : Spec Try.prog 64 [.agg ((cEntry e0).map .p)] (.p (.bool r)) [] :=
  spec_of mix Try.func64 (body := bodyOf Try.f64) (by kernel_rfl) (by kernel_rfl) (bag_entryFits.run h)
end Go.Proofs.YtjhnpaenhdbhpabV
set_option linter.unusedVariables false
set_option linter.unusedSimpArgs false
set_option maxRecDepth 100000
namespace Go.Proofs.YtjhnpaenhdbhpabV
open Go Go.RowKit
noncomputable def slices_CompareFunc_api_Value__value_Compare.p1  : Nat → (List TValue) → (List TValue) → (List TValue) → Int → Int → Option Int
  | 0, _, _, _, _, _ => none
  | k + 1, s10, s21, v11, v12, v13 => if (decide (v13 < v12)) = true then (if 0 ≤ v13 ∧ v13 < ((v11).length : Int) then (if (decide (v13 ≥ ((s21).length : Int))) = true then (some 1) else (if 0 ≤ v13 ∧ v13 < ((s21).length : Int) then ((value_Compare k (v11.getD v13.toNat dValue) (s21.getD v13.toNat dValue)).bind fun y_5 => (if (y_5 != 0) = true then (some y_5) else (slices_CompareFunc_api_Value__value_Compare.p1 k s10 s21 v11 v12 (IntKind.i64.wrap (v13 + 1))))) else none)) else none) else (if (decide (((s10).length : Int) < ((s21).length : Int))) = true then (some (-1)) else (some 0))
noncomputable def slices_CompareFunc_api_Value__value_Compare  (k : Nat) (s10 : (List TValue)) (s21 : (List TValue)) : Option Int := slices_CompareFunc_api_Value__value_Compare.p1 k s10 s21 s10 ((s10).length : Int) 0
noncomputable def slices_CompareFunc_api_Value__value_Compare.t : List Item := [.code (bodyOf Try.f75)]
noncomputable def slices_CompareFunc_api_Value__value_Compare.s (s10 : (List TValue)) (s21 : (List TValue)) : St := ⟨frOf Try.f75.ntmps 0 [(0, .p (eL 3 cValue dValue s10)), (1, .p (eL 3 cValue dValue s21)), (2, .fn 43 [])], []⟩
noncomputable def slices_CompareFunc_api_Value__value_Compare.p1.t : List Item := nav 7 [] slices_CompareFunc_api_Value__value_Compare.t
noncomputable def slices_CompareFunc_api_Value__value_Compare.p1.s (s10 : (List TValue)) (s21 : (List TValue)) (v11 : (List TValue)) (v12 : Int) (v13 : Int) : St := ⟨frOf Try.f75.ntmps 0 [(0, .p (eL 3 cValue dValue s10)), (1, .p (eL 3 cValue dValue s21)), (2, .fn 43 []), (11, .p (eL 3 cValue dValue v11)), (12, .p (.int .i64 v12)), (13, .p (.int .i64 v13))], []⟩
theorem slices_CompareFunc_api_Value__value_Compare.p1.run   : ∀ (k : Nat) (s10 : (List TValue)) (s21 : (List TValue)) (v11 : (List TValue)) (v12 : Int) (v13 : Int) (r : Int), slices_CompareFunc_api_Value__value_Compare.p1 k s10 s21 v11 v12 v13 = some r → RunC Try.prog Try.f75 slices_CompareFunc_api_Value__value_Compare.p1.t (slices_CompareFunc_api_Value__value_Compare.p1.s s10 s21 v11 v12 v13) (.p (.int .i64 r)) [] := by
  intro k
  induction k with
  | zero => intro s10 s21 v11 v12 v13 r h; simp [slices_CompareFunc_api_Value__value_Compare.p1] at h
  | succ k ih =>
    intro s10 s21 v11 v12 v13 r h
    rw [slices_CompareFunc_api_Value__value_Compare.p1] at h
    rcases ite_or h with ⟨g_1, h⟩ | ⟨g_1, h⟩
    · obtain ⟨g_2, h⟩ := ite_some h
      rcases ite_or h with ⟨g_3, h⟩ | ⟨g_3, h⟩
      · obtain rfl := Option.some.inj h
        exact RunC.out [.n 1, .r [(0, .dec true)], .n 9, .r [(3, .dec true)], .n 3] (by kernel_rfl) (Obs.of (by kernel_rfl) (And.intro g_1 (And.intro g_2 g_3)))
      · obtain ⟨g_4, h⟩ := ite_some h
        obtain ⟨y_5, e_6, h⟩ := bind_or h
        rcases ite_or h with ⟨g_7, h⟩ | ⟨g_7, h⟩
        · obtain rfl := Option.some.inj h
          exact RunC.out [.n 1, .r [(0, .dec true)], .n 9, .r [(3, .dec false)], .n 5, .r [(3, .call (.p (.int .i64 y_5)) [])], .n 1, .r [(1, .dec true)], .n 3] (by kernel_rfl) (Obs.of (by kernel_rfl) (And.intro g_1 (And.intro g_2 (And.intro (nt g_3) (And.intro g_4 (And.intro (value_Compare.spec e_6) g_7))))))
        · exact RunC.go [.n 1, .r [(0, .dec true)], .n 9, .r [(3, .dec false)], .n 5, .r [(3, .call (.p (.int .i64 y_5)) [])], .n 1, .r [(1, .dec false)], .n 5, .k [0, 1, 2, 11, 12, 13]] (by kernel_rfl) (Obs.of (by kernel_rfl) (And.intro g_1 (And.intro g_2 (And.intro (nt g_3) (And.intro g_4 (And.intro (value_Compare.spec e_6) (nt g_7))))))) (ih _ _ _ _ _ r h)
    · rcases ite_or h with ⟨g_8, h⟩ | ⟨g_8, h⟩
      · obtain rfl := Option.some.inj h
        exact RunC.out [.n 1, .r [(0, .dec false)], .n 5, .r [(4, .dec true)], .n 3] (by kernel_rfl) (Obs.of (by kernel_rfl) (And.intro (nt g_1) g_8))
      · obtain rfl := Option.some.inj h
        exact RunC.out [.n 1, .r [(0, .dec false)], .n 5, .r [(4, .dec false)], .n 4] (by kernel_rfl) (Obs.of (by kernel_rfl) (And.intro (nt g_1) (nt g_8)))
theorem slices_CompareFunc_api_Value__value_Compare.run   {k : Nat} {s10 : (List TValue)} {s21 : (List TValue)} {r : Int} (h : slices_CompareFunc_api_Value__value_Compare k s10 s21 = some r) : RunC Try.prog Try.f75 slices_CompareFunc_api_Value__value_Compare.t (slices_CompareFunc_api_Value__value_Compare.s s10 s21) (.p (.int .i64 r)) [] := by
  unfold slices_CompareFunc_api_Value__value_Compare at h
  exact RunC.go [.n 7, .k [0, 1, 2, 11, 12, 13]] (by kernel_rfl) (Obs.tt (by kernel_rfl)) (slices_CompareFunc_api_Value__value_Compare.p1.run k _ _ _ _ _ r h)
theorem slices_CompareFunc_api_Value__value_Compare.p1.mono   : ∀ (k k' : Nat) (s10 : (List TValue)) (s21 : (List TValue)) (v11 : (List TValue)) (v12 : Int) (v13 : Int) (r : Int), k ≤ k' → slices_CompareFunc_api_Value__value_Compare.p1 k s10 s21 v11 v12 v13 = some r → slices_CompareFunc_api_Value__value_Compare.p1 k' s10 s21 v11 v12 v13 = some r := by
  intro k
  induction k with
  | zero => intro k' s10 s21 v11 v12 v13 r hk h; simp [slices_CompareFunc_api_Value__value_Compare.p1] at h
  | succ k ih =>
    intro k' s10 s21 v11 v12 v13 r hk h
    obtain ⟨k', rfl⟩ : ∃ m, k' = m + 1 := ⟨k' - 1, by omega⟩
    replace hk := Nat.le_of_succ_le_succ hk
    rw [slices_CompareFunc_api_Value__value_Compare.p1] at h ⊢
    rcases ite_or h with ⟨g_1, h⟩ | ⟨g_1, h⟩
    · refine itp g_1 ?_
      obtain ⟨g_2, h⟩ := ite_some h
      refine itp g_2 ?_
      rcases ite_or h with ⟨g_3, h⟩ | ⟨g_3, h⟩
      · refine itp g_3 ?_
        exact h
      · refine itn g_3 ?_
        obtain ⟨g_4, h⟩ := ite_some h
        refine itp g_4 ?_
        obtain ⟨y_5, e_6, h⟩ := bind_or h
        refine bnd (value_Compare.mono _ _ _ _ _ hk e_6) ?_
        rcases ite_or h with ⟨g_7, h⟩ | ⟨g_7, h⟩
        · refine itp g_7 ?_
          exact h
        · refine itn g_7 ?_
          exact ih _ _ _ _ _ _ r hk h
    · refine itn g_1 ?_
      rcases ite_or h with ⟨g_8, h⟩ | ⟨g_8, h⟩
      · refine itp g_8 ?_
        exact h
      · refine itn g_8 ?_
        exact h
theorem slices_CompareFunc_api_Value__value_Compare.mono   : ∀ (k k' : Nat) (s10 : (List TValue)) (s21 : (List TValue)) (r : Int), k ≤ k' → slices_CompareFunc_api_Value__value_Compare k s10 s21 = some r → slices_CompareFunc_api_Value__value_Compare k' s10 s21 = some r := by
  intro k k' s10 s21 r hk h
  unfold slices_CompareFunc_api_Value__value_Compare at h ⊢
  exact slices_CompareFunc_api_Value__value_Compare.p1.mono _ _ _ _ _ _ _ r hk h
theorem slices_CompareFunc_api_Value__value_Compare.spec {k : Nat} {s10 : (List TValue)} {s21 : (List TValue)} {r : Int} (h : slices_CompareFunc_api_Value__value_Compare k s10 s21 = some r) : Spec Try.prog 75 [.p (eL 3 cValue dValue s10), .p (eL 3 cValue dValue s21), .fn 43 []] (.p (.int .i64 r)) [] :=
  spec_of mix Try.func75 (body := bodyOf Try.f75) (by kernel_rfl) (by kernel_rfl) (slices_CompareFunc_api_Value__value_Compare.run h)
end Go.Proofs.YtjhnpaenhdbhpabV
set_option linter.unusedVariables false
set_option linter.unusedSimpArgs false
set_option maxRecDepth 100000
namespace Go.Proofs.YtjhnpaenhdbhpabV
open Go Go.RowKit
noncomputable def value_CompareRows  (k : Nat) (a0 : (List TValue)) (b1 : (List TValue)) : Option Int := (slices_CompareFunc_api_Value__value_Compare k a0 b1).bind fun y_1 => (some y_1)
noncomputable def value_CompareRows.t : List Item := [.code (bodyOf Try.f65)]
noncomputable def value_CompareRows.s (a0 : (List TValue)) (b1 : (List TValue)) : St := ⟨frOf Try.f65.ntmps 0 [(0, .p (eL 3 cValue dValue a0)), (1, .p (eL 3 cValue dValue b1))], []⟩
theorem value_CompareRows.run   {k : Nat} {a0 : (List TValue)} {b1 : (List TValue)} {r : Int} (h : value_CompareRows k a0 b1 = some r) : RunC Try.prog Try.f65 value_CompareRows.t (value_CompareRows.s a0 b1) (.p (.int .i64 r)) [] := by
  unfold value_CompareRows at h
  obtain ⟨y_1, e_2, h⟩ := bind_or h
  obtain rfl := Option.some.inj h
  exact RunC.out [.n 3, .r [(2, .call (.p (.int .i64 y_1)) [])]] (by kernel_rfl) (Obs.of (by kernel_rfl) (slices_CompareFunc_api_Value__value_Compare.spec e_2))
theorem value_CompareRows.mono   : ∀ (k k' : Nat) (a0 : (List TValue)) (b1 : (List TValue)) (r : Int), k ≤ k' → value_CompareRows k a0 b1 = some r → value_CompareRows k' a0 b1 = some r := by
  intro k k' a0 b1 r hk h
  unfold value_CompareRows at h ⊢
  obtain ⟨y_1, e_2, h⟩ := bind_or h
  refine bnd (slices_CompareFunc_api_Value__value_Compare.mono _ _ _ _ _ hk e_2) ?_
  exact h
theorem value_CompareRows.spec {k : Nat} {a0 : (List TValue)} {b1 : (List TValue)} {r : Int} (h : value_CompareRows k a0 b1 = some r) : Spec Try.prog 65 [.p (eL 3 cValue dValue a0), .p (eL 3 cValue dValue b1)] (.p (.int .i64 r)) [] :=
  spec_of mix Try.func65 (body := bodyOf Try.f65) (by kernel_rfl) (by kernel_rfl) (value_CompareRows.run h)
end Go.Proofs.YtjhnpaenhdbhpabV
set_option linter.unusedVariables false
set_option linter.unusedSimpArgs false
set_option maxRecDepth 100000
namespace Go.Proofs.YtjhnpaenhdbhpabV
open Go Go.RowKit
noncomputable def bag_Valid.p1  : Nat → (List TEntry) → (List TEntry) → Int → Int → Option Bool
  | 0, _, _, _, _ => none
  | k + 1, b0, v5, v6, v7 => if (decide (v7 < v6)) = true then (if 0 ≤ v7 ∧ v7 < ((v5).length : Int) then ((bag_entryFits k (v5.getD v7.toNat dEntry)).bind fun y_3 => (if (!y_3) = true then (some false) else (if ((v5.getD v7.toNat dEntry).f1 == 0) = true then (some false) else (if (decide (v7 > 0)) = true then (if 0 ≤ (IntKind.i64.wrap (v7 - 1)) ∧ (IntKind.i64.wrap (v7 - 1)) < ((b0).length : Int) then ((value_CompareRows k ((b0.getD (IntKind.i64.wrap (v7 - 1)).toNat dEntry).f0) ((v5.getD v7.toNat dEntry).f0)).bind fun y_9 => (if (decide (y_9 ≥ 0)) = true then (some false) else (bag_Valid.p1 k b0 v5 v6 (IntKind.i64.wrap (v7 + 1))))) else none) else (bag_Valid.p1 k b0 v5 v6 (IntKind.i64.wrap (v7 + 1))))))) else none) else (some (decide (((b0).length : Int) ≤ 4096)))
noncomputable def bag_Valid  (k : Nat) (b0 : (List TEntry)) : Option Bool := bag_Valid.p1 k b0 b0 ((b0).length : Int) 0
noncomputable def bag_Valid.t : List Item := [.code (bodyOf Try.f51)]
noncomputable def bag_Valid.s (b0 : (List TEntry)) : St := ⟨frOf Try.f51.ntmps 0 [(0, .p (eL 2 cEntry dEntry b0))], []⟩
noncomputable def bag_Valid.p1.t : List Item := nav 7 [] bag_Valid.t
noncomputable def bag_Valid.p1.s (b0 : (List TEntry)) (v5 : (List TEntry)) (v6 : Int) (v7 : Int) : St := ⟨frOf Try.f51.ntmps 0 [(0, .p (eL 2 cEntry dEntry b0)), (5, .p (eL 2 cEntry dEntry v5)), (6, .p (.int .i64 v6)), (7, .p (.int .i64 v7))], []⟩
theorem bag_Valid.p1.run   : ∀ (k : Nat) (b0 : (List TEntry)) (v5 : (List TEntry)) (v6 : Int) (v7 : Int) (r : Bool), bag_Valid.p1 k b0 v5 v6 v7 = some r → RunC Try.prog Try.f51 bag_Valid.p1.t (bag_Valid.p1.s b0 v5 v6 v7) (.p (.bool r)) [] := by
  intro k
  induction k with
  | zero => intro b0 v5 v6 v7 r h; simp [bag_Valid.p1] at h
  | succ k ih =>
    intro b0 v5 v6 v7 r h
    rw [bag_Valid.p1] at h
    rcases ite_or h with ⟨g_1, h⟩ | ⟨g_1, h⟩
    · obtain ⟨g_2, h⟩ := ite_some h
      obtain ⟨y_3, e_4, h⟩ := bind_or h
      rcases ite_or h with ⟨g_5, h⟩ | ⟨g_5, h⟩
      · obtain rfl := Option.some.inj h
        exact RunC.out [.n 1, .r [(0, .dec true)], .n 8, .r [(1, .call (.p (.bool y_3)) []), (3, .dec true)], .n 3] (by kernel_rfl) (Obs.of (by kernel_rfl) (And.intro g_1 (And.intro g_2 (And.intro (bag_entryFits.spec e_4) g_5))))
      · rcases ite_or h with ⟨g_6, h⟩ | ⟨g_6, h⟩
        · obtain rfl := Option.some.inj h
          exact RunC.out [.n 1, .r [(0, .dec true)], .n 8, .r [(1, .call (.p (.bool y_3)) []), (3, .dec false), (8, .dec true)], .n 3] (by kernel_rfl) (Obs.of (by kernel_rfl) (And.intro g_1 (And.intro g_2 (And.intro (bag_entryFits.spec e_4) (And.intro (nt g_5) g_6)))))
        · rcases ite_or h with ⟨g_7, h⟩ | ⟨g_7, h⟩
          · obtain ⟨g_8, h⟩ := ite_some h
            obtain ⟨y_9, e_10, h⟩ := bind_or h
            rcases ite_or h with ⟨g_11, h⟩ | ⟨g_11, h⟩
            · obtain rfl := Option.some.inj h
              exact RunC.out [.n 1, .r [(0, .dec true)], .n 8, .r [(1, .call (.p (.bool y_3)) []), (3, .dec false), (8, .dec false), (11, .dec true), (20, .call (.p (.int .i64 y_9)) []), (23, .dec true)], .n 3] (by kernel_rfl) (Obs.of (by kernel_rfl) (And.intro g_1 (And.intro g_2 (And.intro (bag_entryFits.spec e_4) (And.intro (nt g_5) (And.intro (nt g_6) (And.intro g_7 (And.intro g_8 (And.intro (value_CompareRows.spec e_10) g_11)))))))))
            · exact RunC.go [.n 1, .r [(0, .dec true)], .n 8, .r [(1, .call (.p (.bool y_3)) []), (3, .dec false), (8, .dec false), (11, .dec true), (20, .call (.p (.int .i64 y_9)) []), (23, .dec false)], .n 5, .k [0, 5, 6, 7]] (by kernel_rfl) (Obs.of (by kernel_rfl) (And.intro g_1 (And.intro g_2 (And.intro (bag_entryFits.spec e_4) (And.intro (nt g_5) (And.intro (nt g_6) (And.intro g_7 (And.intro g_8 (And.intro (value_CompareRows.spec e_10) (nt g_11)))))))))) (ih _ _ _ _ r h)
          · exact RunC.go [.n 1, .r [(0, .dec true)], .n 8, .r [(1, .call (.p (.bool y_3)) []), (3, .dec false), (8, .dec false), (11, .dec false)], .n 5, .k [0, 5, 6, 7]] (by kernel_rfl) (Obs.of (by kernel_rfl) (And.intro g_1 (And.intro g_2 (And.intro (bag_entryFits.spec e_4) (And.intro (nt g_5) (And.intro (nt g_6) (nt g_7))))))) (ih _ _ _ _ r h)
    · obtain rfl := Option.some.inj h
      exact RunC.out [.n 1, .r [(0, .dec false)], .n 5] (by kernel_rfl) (Obs.of (by kernel_rfl) (nt g_1))
theorem bag_Valid.run   {k : Nat} {b0 : (List TEntry)} {r : Bool} (h : bag_Valid k b0 = some r) : RunC Try.prog Try.f51 bag_Valid.t (bag_Valid.s b0) (.p (.bool r)) [] := by
  unfold bag_Valid at h
  exact RunC.go [.n 7, .k [0, 5, 6, 7]] (by kernel_rfl) (Obs.tt (by kernel_rfl)) (bag_Valid.p1.run k _ _ _ _ r h)
theorem bag_Valid.p1.mono   : ∀ (k k' : Nat) (b0 : (List TEntry)) (v5 : (List TEntry)) (v6 : Int) (v7 : Int) (r : Bool), k ≤ k' → bag_Valid.p1 k b0 v5 v6 v7 = some r → bag_Valid.p1 k' b0 v5 v6 v7 = some r := by
  intro k
  induction k with
  | zero => intro k' b0 v5 v6 v7 r hk h; simp [bag_Valid.p1] at h
  | succ k ih =>
    intro k' b0 v5 v6 v7 r hk h
    obtain ⟨k', rfl⟩ : ∃ m, k' = m + 1 := ⟨k' - 1, by omega⟩
    replace hk := Nat.le_of_succ_le_succ hk
    rw [bag_Valid.p1] at h ⊢
    rcases ite_or h with ⟨g_1, h⟩ | ⟨g_1, h⟩
    · refine itp g_1 ?_
      obtain ⟨g_2, h⟩ := ite_some h
      refine itp g_2 ?_
      obtain ⟨y_3, e_4, h⟩ := bind_or h
      refine bnd (bag_entryFits.mono _ _ _ _ hk e_4) ?_
      rcases ite_or h with ⟨g_5, h⟩ | ⟨g_5, h⟩
      · refine itp g_5 ?_
        exact h
      · refine itn g_5 ?_
        rcases ite_or h with ⟨g_6, h⟩ | ⟨g_6, h⟩
        · refine itp g_6 ?_
          exact h
        · refine itn g_6 ?_
          rcases ite_or h with ⟨g_7, h⟩ | ⟨g_7, h⟩
          · refine itp g_7 ?_
            obtain ⟨g_8, h⟩ := ite_some h
            refine itp g_8 ?_
            obtain ⟨y_9, e_10, h⟩ := bind_or h
            refine bnd (value_CompareRows.mono _ _ _ _ _ hk e_10) ?_
            rcases ite_or h with ⟨g_11, h⟩ | ⟨g_11, h⟩
            · refine itp g_11 ?_
              exact h
            · refine itn g_11 ?_
              exact ih _ _ _ _ _ r hk h
          · refine itn g_7 ?_
            exact ih _ _ _ _ _ r hk h
    · refine itn g_1 ?_
      exact h
theorem bag_Valid.mono   : ∀ (k k' : Nat) (b0 : (List TEntry)) (r : Bool), k ≤ k' → bag_Valid k b0 = some r → bag_Valid k' b0 = some r := by
  intro k k' b0 r hk h
  unfold bag_Valid at h ⊢
  exact bag_Valid.p1.mono _ _ _ _ _ _ r hk h
theorem bag_Valid.spec {k : Nat} {b0 : (List TEntry)} {r : Bool} (h : bag_Valid k b0 = some r) : Spec Try.prog 51 [.p (eL 2 cEntry dEntry b0)] (.p (.bool r)) [] :=
  spec_of mix Try.func51 (body := bodyOf Try.f51) (by kernel_rfl) (by kernel_rfl) (bag_Valid.run h)
end Go.Proofs.YtjhnpaenhdbhpabV
set_option linter.unusedVariables false
set_option linter.unusedSimpArgs false
set_option maxRecDepth 100000
namespace Go.Proofs.YtjhnpaenhdbhpabV
open Go Go.RowKit
noncomputable def cache_inDays  (k : Nat) (n0 : Int) : Option Bool := if (decide (n0 ≥ 0)) = true then (some (decide (n0 ≤ 1048576))) else (some false)
noncomputable def cache_inDays.t : List Item := [.code (bodyOf Try.f49)]
noncomputable def cache_inDays.s (n0 : Int) : St := ⟨frOf Try.f49.ntmps 0 [(0, .p (.int .i64 n0))], []⟩
theorem cache_inDays.run   {k : Nat} {n0 : Int} {r : Bool} (h : cache_inDays k n0 = some r) : RunC Try.prog Try.f49 cache_inDays.t (cache_inDays.s n0) (.p (.bool r)) [] := by
  unfold cache_inDays at h
  rcases ite_or h with ⟨g_1, h⟩ | ⟨g_1, h⟩
  · obtain rfl := Option.some.inj h
    exact RunC.out [.n 3, .r [(2, .dec true)]] (by kernel_rfl) (Obs.of (by kernel_rfl) g_1)
  · obtain rfl := Option.some.inj h
    exact RunC.out [.n 3, .r [(2, .dec false)]] (by kernel_rfl) (Obs.of (by kernel_rfl) (nt g_1))
theorem cache_inDays.mono   : ∀ (k k' : Nat) (n0 : Int) (r : Bool), k ≤ k' → cache_inDays k n0 = some r → cache_inDays k' n0 = some r := by
  intro k k' n0 r hk h
  unfold cache_inDays at h ⊢
  rcases ite_or h with ⟨g_1, h⟩ | ⟨g_1, h⟩
  · refine itp g_1 ?_
    exact h
  · refine itn g_1 ?_
    exact h
theorem cache_inDays.spec {k : Nat} {n0 : Int} {r : Bool} (h : cache_inDays k n0 = some r) : Spec Try.prog 49 [.p (.int .i64 n0)] (.p (.bool r)) [] :=
  spec_of mix Try.func49 (body := bodyOf Try.f49) (by kernel_rfl) (by kernel_rfl) (cache_inDays.run h)
end Go.Proofs.YtjhnpaenhdbhpabV
set_option linter.unusedVariables false
set_option linter.unusedSimpArgs false
set_option maxRecDepth 100000
namespace Go.Proofs.YtjhnpaenhdbhpabV
open Go Go.RowKit
noncomputable def cache_Valid.p1  : Nat → (List TCached) → Int → Option Bool
  | 0, _, _ => none
  | k + 1, s0, i3 => if (decide (i3 < ((s0).length : Int))) = true then (if 0 ≤ i3 ∧ i3 < ((s0).length : Int) then ((value_Valid k ((s0.getD i3.toNat dCached).f0)).bind fun y_4 => (if (!y_4) = true then (some false) else (if (decide (i3 > 0)) = true then (if 0 ≤ (IntKind.i64.wrap (i3 - 1)) ∧ (IntKind.i64.wrap (i3 - 1)) < ((s0).length : Int) then ((value_Compare k ((s0.getD (IntKind.i64.wrap (i3 - 1)).toNat dCached).f0) ((s0.getD i3.toNat dCached).f0)).bind fun y_9 => (if (decide (y_9 ≥ 0)) = true then (some false) else ((bag_Valid k ((s0.getD i3.toNat dCached).f1)).bind fun y_12 => (if (!y_12) = true then (some false) else ((cache_inDays k ((s0.getD i3.toNat dCached).f2)).bind fun y_15 => (if (!y_15) = true then (some false) else (cache_Valid.p1 k s0 (IntKind.i64.wrap (i3 + 1))))))))) else none) else ((bag_Valid k ((s0.getD i3.toNat dCached).f1)).bind fun y_18 => (if (!y_18) = true then (some false) else ((cache_inDays k ((s0.getD i3.toNat dCached).f2)).bind fun y_21 => (if (!y_21) = true then (some false) else (cache_Valid.p1 k s0 (IntKind.i64.wrap (i3 + 1)))))))))) else none) else (some true)
noncomputable def cache_Valid  (k : Nat) (s0 : (List TCached)) : Option Bool := if (decide (((s0).length : Int) > 16)) = true then (some false) else (cache_Valid.p1 k s0 0)
noncomputable def cache_Valid.t : List Item := [.code (bodyOf Try.f27)]
noncomputable def cache_Valid.s (s0 : (List TCached)) : St := ⟨frOf Try.f27.ntmps 0 [(0, .p (eL 5 cCached dCached s0))], []⟩
noncomputable def cache_Valid.p1.t : List Item := nav 12 [false] cache_Valid.t
noncomputable def cache_Valid.p1.s (s0 : (List TCached)) (i3 : Int) : St := ⟨frOf Try.f27.ntmps 0 [(0, .p (eL 5 cCached dCached s0)), (3, .p (.int .i64 i3))], []⟩
theorem cache_Valid.p1.run   : ∀ (k : Nat) (s0 : (List TCached)) (i3 : Int) (r : Bool), cache_Valid.p1 k s0 i3 = some r → RunC Try.prog Try.f27 cache_Valid.p1.t (cache_Valid.p1.s s0 i3) (.p (.bool r)) [] := by
  intro k
  induction k with
  | zero => intro s0 i3 r h; simp [cache_Valid.p1] at h
  | succ k ih =>
    intro s0 i3 r h
    rw [cache_Valid.p1] at h
    rcases ite_or h with ⟨g_2, h⟩ | ⟨g_2, h⟩
    · obtain ⟨g_3, h⟩ := ite_some h
      obtain ⟨y_4, e_5, h⟩ := bind_or h
      rcases ite_or h with ⟨g_6, h⟩ | ⟨g_6, h⟩
      · obtain rfl := Option.some.inj h
        exact RunC.out [.n 2, .r [(3, .dec true)], .n 7, .r [(2, .call (.p (.bool y_4)) []), (4, .dec true)], .n 3] (by kernel_rfl) (Obs.of (by kernel_rfl) (And.intro g_2 (And.intro g_3 (And.intro (value_Valid.spec e_5) g_6))))
      · rcases ite_or h with ⟨g_7, h⟩ | ⟨g_7, h⟩
        · obtain ⟨g_8, h⟩ := ite_some h
          obtain ⟨y_9, e_10, h⟩ := bind_or h
          rcases ite_or h with ⟨g_11, h⟩ | ⟨g_11, h⟩
          · obtain rfl := Option.some.inj h
            exact RunC.out [.n 2, .r [(3, .dec true)], .n 7, .r [(2, .call (.p (.bool y_4)) []), (4, .dec false), (7, .dec true), (16, .call (.p (.int .i64 y_9)) []), (20, .dec true)], .n 3] (by kernel_rfl) (Obs.of (by kernel_rfl) (And.intro g_2 (And.intro g_3 (And.intro (value_Valid.spec e_5) (And.intro (nt g_6) (And.intro g_7 (And.intro g_8 (And.intro (value_Compare.spec e_10) g_11))))))))
          · obtain ⟨y_12, e_13, h⟩ := bind_or h
            rcases ite_or h with ⟨g_14, h⟩ | ⟨g_14, h⟩
            · obtain rfl := Option.some.inj h
              exact RunC.out [.n 2, .r [(3, .dec true)], .n 7, .r [(2, .call (.p (.bool y_4)) []), (4, .dec false), (7, .dec true), (16, .call (.p (.int .i64 y_9)) []), (20, .dec false), (23, .call (.p (.bool y_12)) []), (26, .dec true)], .n 3] (by kernel_rfl) (Obs.of (by kernel_rfl) (And.intro g_2 (And.intro g_3 (And.intro (value_Valid.spec e_5) (And.intro (nt g_6) (And.intro g_7 (And.intro g_8 (And.intro (value_Compare.spec e_10) (And.intro (nt g_11) (And.intro (bag_Valid.spec e_13) g_14))))))))))
            · obtain ⟨y_15, e_16, h⟩ := bind_or h
              rcases ite_or h with ⟨g_17, h⟩ | ⟨g_17, h⟩
              · obtain rfl := Option.some.inj h
                exact RunC.out [.n 2, .r [(3, .dec true)], .n 7, .r [(2, .call (.p (.bool y_4)) []), (4, .dec false), (7, .dec true), (16, .call (.p (.int .i64 y_9)) []), (20, .dec false), (23, .call (.p (.bool y_12)) []), (26, .dec false), (29, .call (.p (.bool y_15)) []), (31, .dec true)], .n 3] (by kernel_rfl) (Obs.of (by kernel_rfl) (And.intro g_2 (And.intro g_3 (And.intro (value_Valid.spec e_5) (And.intro (nt g_6) (And.intro g_7 (And.intro g_8 (And.intro (value_Compare.spec e_10) (And.intro (nt g_11) (And.intro (bag_Valid.spec e_13) (And.intro (nt g_14) (And.intro (cache_inDays.spec e_16) g_17))))))))))))
              · exact RunC.go [.n 2, .r [(3, .dec true)], .n 7, .r [(2, .call (.p (.bool y_4)) []), (4, .dec false), (7, .dec true), (16, .call (.p (.int .i64 y_9)) []), (20, .dec false), (23, .call (.p (.bool y_12)) []), (26, .dec false), (29, .call (.p (.bool y_15)) []), (31, .dec false)], .n 5, .k [0, 3]] (by kernel_rfl) (Obs.of (by kernel_rfl) (And.intro g_2 (And.intro g_3 (And.intro (value_Valid.spec e_5) (And.intro (nt g_6) (And.intro g_7 (And.intro g_8 (And.intro (value_Compare.spec e_10) (And.intro (nt g_11) (And.intro (bag_Valid.spec e_13) (And.intro (nt g_14) (And.intro (cache_inDays.spec e_16) (nt g_17))))))))))))) (ih _ _ r h)
        · obtain ⟨y_18, e_19, h⟩ := bind_or h
          rcases ite_or h with ⟨g_20, h⟩ | ⟨g_20, h⟩
          · obtain rfl := Option.some.inj h
            exact RunC.out [.n 2, .r [(3, .dec true)], .n 7, .r [(2, .call (.p (.bool y_4)) []), (4, .dec false), (7, .dec false), (23, .call (.p (.bool y_18)) []), (26, .dec true)], .n 3] (by kernel_rfl) (Obs.of (by kernel_rfl) (And.intro g_2 (And.intro g_3 (And.intro (value_Valid.spec e_5) (And.intro (nt g_6) (And.intro (nt g_7) (And.intro (bag_Valid.spec e_19) g_20)))))))
          · obtain ⟨y_21, e_22, h⟩ := bind_or h
            rcases ite_or h with ⟨g_23, h⟩ | ⟨g_23, h⟩
            · obtain rfl := Option.some.inj h
              exact RunC.out [.n 2, .r [(3, .dec true)], .n 7, .r [(2, .call (.p (.bool y_4)) []), (4, .dec false), (7, .dec false), (23, .call (.p (.bool y_18)) []), (26, .dec false), (29, .call (.p (.bool y_21)) []), (31, .dec true)], .n 3] (by kernel_rfl) (Obs.of (by kernel_rfl) (And.intro g_2 (And.intro g_3 (And.intro (value_Valid.spec e_5) (And.intro (nt g_6) (And.intro (nt g_7) (And.intro (bag_Valid.spec e_19) (And.intro (nt g_20) (And.intro (cache_inDays.spec e_22) g_23)))))))))
            · exact RunC.go [.n 2, .r [(3, .dec true)], .n 7, .r [(2, .call (.p (.bool y_4)) []), (4, .dec false), (7, .dec false), (23, .call (.p (.bool y_18)) []), (26, .dec false), (29, .call (.p (.bool y_21)) []), (31, .dec false)], .n 5, .k [0, 3]] (by kernel_rfl) (Obs.of (by kernel_rfl) (And.intro g_2 (And.intro g_3 (And.intro (value_Valid.spec e_5) (And.intro (nt g_6) (And.intro (nt g_7) (And.intro (bag_Valid.spec e_19) (And.intro (nt g_20) (And.intro (cache_inDays.spec e_22) (nt g_23)))))))))) (ih _ _ r h)
    · obtain rfl := Option.some.inj h
      exact RunC.out [.n 2, .r [(3, .dec false)], .n 4] (by kernel_rfl) (Obs.of (by kernel_rfl) (nt g_2))
theorem cache_Valid.run   {k : Nat} {s0 : (List TCached)} {r : Bool} (h : cache_Valid k s0 = some r) : RunC Try.prog Try.f27 cache_Valid.t (cache_Valid.s s0) (.p (.bool r)) [] := by
  unfold cache_Valid at h
  rcases ite_or h with ⟨g_1, h⟩ | ⟨g_1, h⟩
  · obtain rfl := Option.some.inj h
    exact RunC.out [.n 4, .r [(2, .dec true)], .n 3] (by kernel_rfl) (Obs.of (by kernel_rfl) g_1)
  · exact RunC.go [.n 4, .r [(2, .dec false)], .n 7, .k [0, 3]] (by kernel_rfl) (Obs.of (by kernel_rfl) (nt g_1)) (cache_Valid.p1.run k _ _ r h)
theorem cache_Valid.p1.mono   : ∀ (k k' : Nat) (s0 : (List TCached)) (i3 : Int) (r : Bool), k ≤ k' → cache_Valid.p1 k s0 i3 = some r → cache_Valid.p1 k' s0 i3 = some r := by
  intro k
  induction k with
  | zero => intro k' s0 i3 r hk h; simp [cache_Valid.p1] at h
  | succ k ih =>
    intro k' s0 i3 r hk h
    obtain ⟨k', rfl⟩ : ∃ m, k' = m + 1 := ⟨k' - 1, by omega⟩
    replace hk := Nat.le_of_succ_le_succ hk
    rw [cache_Valid.p1] at h ⊢
    rcases ite_or h with ⟨g_2, h⟩ | ⟨g_2, h⟩
    · refine itp g_2 ?_
      obtain ⟨g_3, h⟩ := ite_some h
      refine itp g_3 ?_
      obtain ⟨y_4, e_5, h⟩ := bind_or h
      refine bnd (value_Valid.mono _ _ _ _ hk e_5) ?_
      rcases ite_or h with ⟨g_6, h⟩ | ⟨g_6, h⟩
      · refine itp g_6 ?_
        exact h
      · refine itn g_6 ?_
        rcases ite_or h with ⟨g_7, h⟩ | ⟨g_7, h⟩
        · refine itp g_7 ?_
          obtain ⟨g_8, h⟩ := ite_some h
          refine itp g_8 ?_
          obtain ⟨y_9, e_10, h⟩ := bind_or h
          refine bnd (value_Compare.mono _ _ _ _ _ hk e_10) ?_
          rcases ite_or h with ⟨g_11, h⟩ | ⟨g_11, h⟩
          · refine itp g_11 ?_
            exact h
          · refine itn g_11 ?_
            obtain ⟨y_12, e_13, h⟩ := bind_or h
            refine bnd (bag_Valid.mono _ _ _ _ hk e_13) ?_
            rcases ite_or h with ⟨g_14, h⟩ | ⟨g_14, h⟩
            · refine itp g_14 ?_
              exact h
            · refine itn g_14 ?_
              obtain ⟨y_15, e_16, h⟩ := bind_or h
              refine bnd (cache_inDays.mono _ _ _ _ hk e_16) ?_
              rcases ite_or h with ⟨g_17, h⟩ | ⟨g_17, h⟩
              · refine itp g_17 ?_
                exact h
              · refine itn g_17 ?_
                exact ih _ _ _ r hk h
        · refine itn g_7 ?_
          obtain ⟨y_18, e_19, h⟩ := bind_or h
          refine bnd (bag_Valid.mono _ _ _ _ hk e_19) ?_
          rcases ite_or h with ⟨g_20, h⟩ | ⟨g_20, h⟩
          · refine itp g_20 ?_
            exact h
          · refine itn g_20 ?_
            obtain ⟨y_21, e_22, h⟩ := bind_or h
            refine bnd (cache_inDays.mono _ _ _ _ hk e_22) ?_
            rcases ite_or h with ⟨g_23, h⟩ | ⟨g_23, h⟩
            · refine itp g_23 ?_
              exact h
            · refine itn g_23 ?_
              exact ih _ _ _ r hk h
    · refine itn g_2 ?_
      exact h
theorem cache_Valid.mono   : ∀ (k k' : Nat) (s0 : (List TCached)) (r : Bool), k ≤ k' → cache_Valid k s0 = some r → cache_Valid k' s0 = some r := by
  intro k k' s0 r hk h
  unfold cache_Valid at h ⊢
  rcases ite_or h with ⟨g_1, h⟩ | ⟨g_1, h⟩
  · refine itp g_1 ?_
    exact h
  · refine itn g_1 ?_
    exact cache_Valid.p1.mono _ _ _ _ r hk h
theorem cache_Valid.spec {k : Nat} {s0 : (List TCached)} {r : Bool} (h : cache_Valid k s0 = some r) : Spec Try.prog 27 [.p (eL 5 cCached dCached s0)] (.p (.bool r)) [] :=
  spec_of mix Try.func27 (body := bodyOf Try.f27) (by kernel_rfl) (by kernel_rfl) (cache_Valid.run h)
end Go.Proofs.YtjhnpaenhdbhpabV
set_option linter.unusedVariables false
set_option linter.unusedSimpArgs false
set_option maxRecDepth 100000
namespace Go.Proofs.YtjhnpaenhdbhpabV
open Go Go.RowKit
noncomputable def cache_usable  (k : Nat) (c0 : TCache) (s1 : (List TCached)) (rows2 : (List TEntry)) (day3 : Int) : Option Bool := (cache_Valid k s1).bind fun y_1 => (if y_1 = true then ((bag_Valid k rows2).bind fun y_4 => (if y_4 = true then ((cache_inDays k c0.f3).bind fun y_7 => (if y_7 = true then ((cache_inDays k day3).bind fun y_10 => (some y_10)) else (some false))) else (some false))) else (some false))
noncomputable def cache_usable.t : List Item := [.code (bodyOf Try.f42)]
noncomputable def cache_usable.s (c0 : TCache) (s1 : (List TCached)) (rows2 : (List TEntry)) (day3 : Int) : St := ⟨frOf Try.f42.ntmps 0 [(0, .agg ((cCache c0).map .p)), (1, .p (eL 5 cCached dCached s1)), (2, .p (eL 2 cEntry dEntry rows2)), (3, .p (.int .i64 day3))], []⟩
theorem cache_usable.run   {k : Nat} {c0 : TCache} {s1 : (List TCached)} {rows2 : (List TEntry)} {day3 : Int} {r : Bool} (h : cache_usable k c0 s1 rows2 day3 = some r) : RunC Try.prog Try.f42 cache_usable.t (cache_usable.s c0 s1 rows2 day3) (.p (.bool r)) [] := by
  unfold cache_usable at h
  obtain ⟨y_1, e_2, h⟩ := bind_or h
  rcases ite_or h with ⟨g_3, h⟩ | ⟨g_3, h⟩
  · obtain ⟨y_4, e_5, h⟩ := bind_or h
    rcases ite_or h with ⟨g_6, h⟩ | ⟨g_6, h⟩
    · obtain ⟨y_7, e_8, h⟩ := bind_or h
      rcases ite_or h with ⟨g_9, h⟩ | ⟨g_9, h⟩
      · obtain ⟨y_10, e_11, h⟩ := bind_or h
        obtain rfl := Option.some.inj h
        exact RunC.out [.n 3, .r [(1, .call (.p (.bool y_1)) []), (2, .dec true), (4, .call (.p (.bool y_4)) []), (6, .dec true), (9, .call (.p (.bool y_7)) []), (11, .dec true), (13, .call (.p (.bool y_10)) [])]] (by kernel_rfl) (Obs.of (by kernel_rfl) (And.intro (cache_Valid.spec e_2) (And.intro g_3 (And.intro (bag_Valid.spec e_5) (And.intro g_6 (And.intro (cache_inDays.spec e_8) (And.intro g_9 (cache_inDays.spec e_11))))))))
      · obtain rfl := Option.some.inj h
        exact RunC.out [.n 3, .r [(1, .call (.p (.bool y_1)) []), (2, .dec true), (4, .call (.p (.bool y_4)) []), (6, .dec true), (9, .call (.p (.bool y_7)) []), (11, .dec false)]] (by kernel_rfl) (Obs.of (by kernel_rfl) (And.intro (cache_Valid.spec e_2) (And.intro g_3 (And.intro (bag_Valid.spec e_5) (And.intro g_6 (And.intro (cache_inDays.spec e_8) (nt g_9)))))))
    · obtain rfl := Option.some.inj h
      exact RunC.out [.n 3, .r [(1, .call (.p (.bool y_1)) []), (2, .dec true), (4, .call (.p (.bool y_4)) []), (6, .dec false)]] (by kernel_rfl) (Obs.of (by kernel_rfl) (And.intro (cache_Valid.spec e_2) (And.intro g_3 (And.intro (bag_Valid.spec e_5) (nt g_6)))))
  · obtain rfl := Option.some.inj h
    exact RunC.out [.n 3, .r [(1, .call (.p (.bool y_1)) []), (2, .dec false)]] (by kernel_rfl) (Obs.of (by kernel_rfl) (And.intro (cache_Valid.spec e_2) (nt g_3)))
theorem cache_usable.mono   : ∀ (k k' : Nat) (c0 : TCache) (s1 : (List TCached)) (rows2 : (List TEntry)) (day3 : Int) (r : Bool), k ≤ k' → cache_usable k c0 s1 rows2 day3 = some r → cache_usable k' c0 s1 rows2 day3 = some r := by
  intro k k' c0 s1 rows2 day3 r hk h
  unfold cache_usable at h ⊢
  obtain ⟨y_1, e_2, h⟩ := bind_or h
  refine bnd (cache_Valid.mono _ _ _ _ hk e_2) ?_
  rcases ite_or h with ⟨g_3, h⟩ | ⟨g_3, h⟩
  · refine itp g_3 ?_
    obtain ⟨y_4, e_5, h⟩ := bind_or h
    refine bnd (bag_Valid.mono _ _ _ _ hk e_5) ?_
    rcases ite_or h with ⟨g_6, h⟩ | ⟨g_6, h⟩
    · refine itp g_6 ?_
      obtain ⟨y_7, e_8, h⟩ := bind_or h
      refine bnd (cache_inDays.mono _ _ _ _ hk e_8) ?_
      rcases ite_or h with ⟨g_9, h⟩ | ⟨g_9, h⟩
      · refine itp g_9 ?_
        obtain ⟨y_10, e_11, h⟩ := bind_or h
        refine bnd (cache_inDays.mono _ _ _ _ hk e_11) ?_
        exact h
      · refine itn g_9 ?_
        exact h
    · refine itn g_6 ?_
      exact h
  · refine itn g_3 ?_
    exact h
theorem cache_usable.spec {k : Nat} {c0 : TCache} {s1 : (List TCached)} {rows2 : (List TEntry)} {day3 : Int} {r : Bool} (h : cache_usable k c0 s1 rows2 day3 = some r) : Spec Try.prog 42 [.agg ((cCache c0).map .p), .p (eL 5 cCached dCached s1), .p (eL 2 cEntry dEntry rows2), .p (.int .i64 day3)] (.p (.bool r)) [] :=
  spec_of mix Try.func42 (body := bodyOf Try.f42) (by kernel_rfl) (by kernel_rfl) (cache_usable.run h)
end Go.Proofs.YtjhnpaenhdbhpabV
set_option linter.unusedVariables false
set_option linter.unusedSimpArgs false
set_option maxRecDepth 100000
namespace Go.Proofs.YtjhnpaenhdbhpabV
open Go Go.RowKit
noncomputable def cache_duplicate  (k : Nat) (x0 : TCached) : Option TCached := (cache_copied k x0.f1).bind fun y_1 => (some (TCached.mk x0.f0 y_1 x0.f2))
noncomputable def cache_duplicate.t : List Item := [.code (bodyOf Try.f48)]
noncomputable def cache_duplicate.s (x0 : TCached) : St := ⟨frOf Try.f48.ntmps 0 [(0, .agg ((cCached x0).map .p))], []⟩
theorem cache_duplicate.run   {k : Nat} {x0 : TCached} {r : TCached} (h : cache_duplicate k x0 = some r) : RunC Try.prog Try.f48 cache_duplicate.t (cache_duplicate.s x0) (.agg ((cCached r).map .p)) [] := by
  unfold cache_duplicate at h
  obtain ⟨y_1, e_2, h⟩ := bind_or h
  obtain rfl := Option.some.inj h
  exact RunC.out [.n 3, .r [(2, .call (.sref 0 36 2 (y_1).length) [(oL true 36 2 cEntry dEntry y_1)])], .n 2] (by kernel_rfl) (Obs.of (by kernel_rfl) (cache_copied.spec e_2))
theorem cache_duplicate.mono   : ∀ (k k' : Nat) (x0 : TCached) (r : TCached), k ≤ k' → cache_duplicate k x0 = some r → cache_duplicate k' x0 = some r := by
  intro k k' x0 r hk h
  unfold cache_duplicate at h ⊢
  obtain ⟨y_1, e_2, h⟩ := bind_or h
  refine bnd (cache_copied.mono _ _ _ _ hk e_2) ?_
  exact h
theorem cache_duplicate.spec {k : Nat} {x0 : TCached} {r : TCached} (h : cache_duplicate k x0 = some r) : Spec Try.prog 48 [.agg ((cCached x0).map .p)] (.agg ((cCached r).map .p)) [] :=
  spec_of mix Try.func48 (body := bodyOf Try.f48) (by kernel_rfl) (by kernel_rfl) (cache_duplicate.run h)
end Go.Proofs.YtjhnpaenhdbhpabV
set_option linter.unusedVariables false
set_option linter.unusedSimpArgs false
set_option maxRecDepth 100000
namespace Go.Proofs.YtjhnpaenhdbhpabV
open Go Go.RowKit
noncomputable def cache_Expire.p1  : Nat → (List TCached) → Int → Int → TCache → (List TCached) → Option (List TCached)
  | 0, _, _, _, _, _ => none
  | k + 1, s1, day2, i8, c3b, out7 => if (decide (i8 < ((s1).length : Int))) = true then (if 0 ≤ i8 ∧ i8 < ((s1).length : Int) then (if (decide (day2 ≥ (s1.getD i8.toNat dCached).f2)) = true then (if (decide (day2 < (IntKind.i64.wrap ((s1.getD i8.toNat dCached).f2 + c3b.f3)))) = true then ((cache_duplicate k (s1.getD i8.toNat dCached)).bind fun y_14 => (if (out7).length + ([y_14]).length ≤ maxLen ∧ ((out7).length + ([y_14]).length) * 64 ≤ 140737488355328 then (cache_Expire.p1 k s1 day2 (IntKind.i64.wrap (i8 + 1)) c3b (out7 ++ ([y_14]))) else none)) else (cache_Expire.p1 k s1 day2 (IntKind.i64.wrap (i8 + 1)) c3b out7)) else (cache_Expire.p1 k s1 day2 (IntKind.i64.wrap (i8 + 1)) c3b out7)) else none) else (some out7)
noncomputable def cache_Expire  (k : Nat) (c0 : TCache) (s1 : (List TCached)) (day2 : Int) : Option (List TCached) := (cache_Valid k s1).bind fun y_1 => (if (!y_1) = true then (some ([] : List TCached)) else ((cache_inDays k c0.f3).bind fun y_4 => (if (!y_4) = true then (some ([] : List TCached)) else ((cache_inDays k day2).bind fun y_7 => (if (!y_7) = true then (some ([] : List TCached)) else (cache_Expire.p1 k s1 day2 0 c0 ([] : List TCached)))))))
noncomputable def cache_Expire.t : List Item := [.code (bodyOf Try.f25)]
noncomputable def cache_Expire.s (c0 : TCache) (s1 : (List TCached)) (day2 : Int) : St := ⟨frOf Try.f25.ntmps 0 [(0, .agg ((cCache c0).map .p)), (1, .p (eL 5 cCached dCached s1)), (2, .p (.int .i64 day2))], []⟩
noncomputable def cache_Expire.p1.t : List Item := nav 14 [false] cache_Expire.t
noncomputable def cache_Expire.p1.s (s1 : (List TCached)) (day2 : Int) (i8 : Int) (c3b : TCache) (out7 : (List TCached)) : St := ⟨frOf Try.f25.ntmps 0 [(1, .p (eL 5 cCached dCached s1)), (2, .p (.int .i64 day2)), (3, .ptr 0 0 0), (7, .sref 1 46 5 (out7).length), (8, .p (.int .i64 i8))], [.box ((cCache c3b).map .p), (oL true 46 5 cCached dCached out7)]⟩
theorem cache_Expire.p1.run   : ∀ (k : Nat) (s1 : (List TCached)) (day2 : Int) (i8 : Int) (c3b : TCache) (out7 : (List TCached)) (r : (List TCached)), cache_Expire.p1 k s1 day2 i8 c3b out7 = some r → RunC Try.prog Try.f25 cache_Expire.p1.t (cache_Expire.p1.s s1 day2 i8 c3b out7) (.sref 0 46 5 (r).length) [(oL true 46 5 cCached dCached (r))] := by
  intro k
  induction k with
  | zero => intro s1 day2 i8 c3b out7 r h; simp [cache_Expire.p1] at h
  | succ k ih =>
    intro s1 day2 i8 c3b out7 r h
    rw [cache_Expire.p1] at h
    rcases ite_or h with ⟨g_10, h⟩ | ⟨g_10, h⟩
    · obtain ⟨g_11, h⟩ := ite_some h
      rcases ite_or h with ⟨g_12, h⟩ | ⟨g_12, h⟩
      · rcases ite_or h with ⟨g_13, h⟩ | ⟨g_13, h⟩
        · obtain ⟨y_14, e_15, h⟩ := bind_or h
          obtain ⟨g_16, h⟩ := ite_some h
          exact RunC.go [.n 2, .r [(3, .dec true)], .n 5, .r [(7, .dec true), (18, .dec true)], .n 1, .r [(5, .call (.agg ((cCached y_14).map .p)) []), (6, .obj (oL true 46 5 cCached dCached [y_14])), (7, .obj (oL true 46 5 cCached dCached (out7 ++ ([y_14]))))], .n 3, .k [1, 2, 3, 7, 8]] (by kernel_rfl) (Obs.of (by kernel_rfl) (And.intro g_10 (And.intro g_11 (And.intro g_12 (And.intro g_11 (And.intro g_13 (And.intro g_11 (And.intro (cache_duplicate.spec e_15) (And.intro (le_one 46 5 cCached dCached y_14) (And.intro g_16 (le_app 46 5 cCached dCached out7 ([y_14])))))))))))) (ih _ _ _ _ _ r h)
        · exact RunC.go [.n 2, .r [(3, .dec true)], .n 5, .r [(7, .dec true), (18, .dec false)], .n 5, .k [1, 2, 3, 7, 8]] (by kernel_rfl) (Obs.of (by kernel_rfl) (And.intro g_10 (And.intro g_11 (And.intro g_12 (And.intro g_11 (nt g_13)))))) (ih _ _ _ _ _ r h)
      · exact RunC.go [.n 2, .r [(3, .dec true)], .n 5, .r [(7, .dec false)], .n 5, .k [1, 2, 3, 7, 8]] (by kernel_rfl) (Obs.of (by kernel_rfl) (And.intro g_10 (And.intro g_11 (nt g_12)))) (ih _ _ _ _ _ r h)
    · obtain rfl := Option.some.inj h
      exact RunC.out [.n 2, .r [(3, .dec false)], .n 4] (by kernel_rfl) (Obs.of (by kernel_rfl) (nt g_10))
theorem cache_Expire.run   {k : Nat} {c0 : TCache} {s1 : (List TCached)} {day2 : Int} {r : (List TCached)} (h : cache_Expire k c0 s1 day2 = some r) : RunC Try.prog Try.f25 cache_Expire.t (cache_Expire.s c0 s1 day2) (.sref 0 46 5 (r).length) [(oL true 46 5 cCached dCached (r))] := by
  unfold cache_Expire at h
  obtain ⟨y_1, e_2, h⟩ := bind_or h
  rcases ite_or h with ⟨g_3, h⟩ | ⟨g_3, h⟩
  · obtain rfl := Option.some.inj h
    exact RunC.out [.n 1, .r [(1, .obj (oL true 46 5 cCached dCached ([] : List TCached)))], .n 2, .r [(1, .call (.p (.bool y_1)) []), (3, .dec true)], .n 2, .r [(0, .obj (oL true 46 5 cCached dCached ([] : List TCached)))]] (by kernel_rfl) (Obs.of (by kernel_rfl) (And.intro (le_nil 46 5 cCached dCached) (And.intro (cache_Valid.spec e_2) (And.intro g_3 (le_nil 46 5 cCached dCached)))))
  · obtain ⟨y_4, e_5, h⟩ := bind_or h
    rcases ite_or h with ⟨g_6, h⟩ | ⟨g_6, h⟩
    · obtain rfl := Option.some.inj h
      exact RunC.out [.n 1, .r [(1, .obj (oL true 46 5 cCached dCached ([] : List TCached)))], .n 2, .r [(1, .call (.p (.bool y_1)) []), (3, .dec false), (6, .call (.p (.bool y_4)) []), (9, .dec true)], .n 2, .r [(0, .obj (oL true 46 5 cCached dCached ([] : List TCached)))]] (by kernel_rfl) (Obs.of (by kernel_rfl) (And.intro (le_nil 46 5 cCached dCached) (And.intro (cache_Valid.spec e_2) (And.intro (nt g_3) (And.intro (cache_inDays.spec e_5) (And.intro g_6 (le_nil 46 5 cCached dCached)))))))
    · obtain ⟨y_7, e_8, h⟩ := bind_or h
      rcases ite_or h with ⟨g_9, h⟩ | ⟨g_9, h⟩
      · obtain rfl := Option.some.inj h
        exact RunC.out [.n 1, .r [(1, .obj (oL true 46 5 cCached dCached ([] : List TCached)))], .n 2, .r [(1, .call (.p (.bool y_1)) []), (3, .dec false), (6, .call (.p (.bool y_4)) []), (9, .dec false), (11, .call (.p (.bool y_7)) []), (13, .dec true)], .n 2, .r [(0, .obj (oL true 46 5 cCached dCached ([] : List TCached)))]] (by kernel_rfl) (Obs.of (by kernel_rfl) (And.intro (le_nil 46 5 cCached dCached) (And.intro (cache_Valid.spec e_2) (And.intro (nt g_3) (And.intro (cache_inDays.spec e_5) (And.intro (nt g_6) (And.intro (cache_inDays.spec e_8) (And.intro g_9 (le_nil 46 5 cCached dCached)))))))))
      · exact RunC.go [.n 1, .r [(1, .obj (oL true 46 5 cCached dCached ([] : List TCached)))], .n 2, .r [(1, .call (.p (.bool y_1)) []), (3, .dec false), (6, .call (.p (.bool y_4)) []), (9, .dec false), (11, .call (.p (.bool y_7)) []), (13, .dec false)], .n 3, .r [(0, .obj (oL true 46 5 cCached dCached ([] : List TCached)))], .n 5, .k [1, 2, 3, 7, 8]] (by kernel_rfl) (Obs.of (by kernel_rfl) (And.intro (le_nil 46 5 cCached dCached) (And.intro (cache_Valid.spec e_2) (And.intro (nt g_3) (And.intro (cache_inDays.spec e_5) (And.intro (nt g_6) (And.intro (cache_inDays.spec e_8) (And.intro (nt g_9) (le_nil 46 5 cCached dCached))))))))) (cache_Expire.p1.run k _ _ _ _ _ r h)
theorem cache_Expire.p1.mono   : ∀ (k k' : Nat) (s1 : (List TCached)) (day2 : Int) (i8 : Int) (c3b : TCache) (out7 : (List TCached)) (r : (List TCached)), k ≤ k' → cache_Expire.p1 k s1 day2 i8 c3b out7 = some r → cache_Expire.p1 k' s1 day2 i8 c3b out7 = some r := by
  intro k
  induction k with
  | zero => intro k' s1 day2 i8 c3b out7 r hk h; simp [cache_Expire.p1] at h
  | succ k ih =>
    intro k' s1 day2 i8 c3b out7 r hk h
    obtain ⟨k', rfl⟩ : ∃ m, k' = m + 1 := ⟨k' - 1, by omega⟩
    replace hk := Nat.le_of_succ_le_succ hk
    rw [cache_Expire.p1] at h ⊢
    rcases ite_or h with ⟨g_10, h⟩ | ⟨g_10, h⟩
    · refine itp g_10 ?_
      obtain ⟨g_11, h⟩ := ite_some h
      refine itp g_11 ?_
      rcases ite_or h with ⟨g_12, h⟩ | ⟨g_12, h⟩
      · refine itp g_12 ?_
        rcases ite_or h with ⟨g_13, h⟩ | ⟨g_13, h⟩
        · refine itp g_13 ?_
          obtain ⟨y_14, e_15, h⟩ := bind_or h
          refine bnd (cache_duplicate.mono _ _ _ _ hk e_15) ?_
          obtain ⟨g_16, h⟩ := ite_some h
          refine itp g_16 ?_
          exact ih _ _ _ _ _ _ r hk h
        · refine itn g_13 ?_
          exact ih _ _ _ _ _ _ r hk h
      · refine itn g_12 ?_
        exact ih _ _ _ _ _ _ r hk h
    · refine itn g_10 ?_
      exact h
theorem cache_Expire.mono   : ∀ (k k' : Nat) (c0 : TCache) (s1 : (List TCached)) (day2 : Int) (r : (List TCached)), k ≤ k' → cache_Expire k c0 s1 day2 = some r → cache_Expire k' c0 s1 day2 = some r := by
  intro k k' c0 s1 day2 r hk h
  unfold cache_Expire at h ⊢
  obtain ⟨y_1, e_2, h⟩ := bind_or h
  refine bnd (cache_Valid.mono _ _ _ _ hk e_2) ?_
  rcases ite_or h with ⟨g_3, h⟩ | ⟨g_3, h⟩
  · refine itp g_3 ?_
    exact h
  · refine itn g_3 ?_
    obtain ⟨y_4, e_5, h⟩ := bind_or h
    refine bnd (cache_inDays.mono _ _ _ _ hk e_5) ?_
    rcases ite_or h with ⟨g_6, h⟩ | ⟨g_6, h⟩
    · refine itp g_6 ?_
      exact h
    · refine itn g_6 ?_
      obtain ⟨y_7, e_8, h⟩ := bind_or h
      refine bnd (cache_inDays.mono _ _ _ _ hk e_8) ?_
      rcases ite_or h with ⟨g_9, h⟩ | ⟨g_9, h⟩
      · refine itp g_9 ?_
        exact h
      · refine itn g_9 ?_
        exact cache_Expire.p1.mono _ _ _ _ _ _ _ r hk h
theorem cache_Expire.spec {k : Nat} {c0 : TCache} {s1 : (List TCached)} {day2 : Int} {r : (List TCached)} (h : cache_Expire k c0 s1 day2 = some r) : Spec Try.prog 25 [.agg ((cCache c0).map .p), .p (eL 5 cCached dCached s1), .p (.int .i64 day2)] (.sref 0 46 5 (r).length) [(oL true 46 5 cCached dCached (r))] :=
  spec_of mix Try.func25 (body := bodyOf Try.f25) (by kernel_rfl) (by kernel_rfl) (cache_Expire.run h)
end Go.Proofs.YtjhnpaenhdbhpabV
set_option linter.unusedVariables false
set_option linter.unusedSimpArgs false
set_option maxRecDepth 100000
namespace Go.Proofs.YtjhnpaenhdbhpabV
open Go Go.RowKit
noncomputable def cache_Lookup.p3  : Nat → (List TEntry) → Int → Int → TCache → (List TCached) → TValue → Option ((List TCached) × (List TEntry) × Int)
  | 0, _, _, _, _, _, _ => none
  | k + 1, rows2, day4, i18, c5b, out13, want14b => if (decide (i18 < ((out13).length : Int))) = true then (if 0 ≤ i18 ∧ i18 < ((out13).length : Int) then ((value_Compare k ((out13.getD i18.toNat dCached).f0) want14b).bind fun y_23 => (if (decide (y_23 < 0)) = true then (cache_Lookup.p3 k rows2 day4 (IntKind.i64.wrap (i18 + 1)) c5b out13 want14b) else (if (out13).length + ([(TCached.mk (TValue.mk 0 0 (⟨#[]⟩ : ByteArray)) ([] : List TEntry) 0)]).length ≤ maxLen ∧ ((out13).length + ([(TCached.mk (TValue.mk 0 0 (⟨#[]⟩ : ByteArray)) ([] : List TEntry) 0)]).length) * 64 ≤ 140737488355328 then (if 0 ≤ (IntKind.i64.wrap (i18 + 1)) ∧ (IntKind.i64.wrap (i18 + 1)) ≤ (((out13 ++ ([(TCached.mk (TValue.mk 0 0 (⟨#[]⟩ : ByteArray)) ([] : List TEntry) 0)]))).length : Int) ∧ (((out13 ++ ([(TCached.mk (TValue.mk 0 0 (⟨#[]⟩ : ByteArray)) ([] : List TEntry) 0)]))).length : Int) ≤ (((out13 ++ ([(TCached.mk (TValue.mk 0 0 (⟨#[]⟩ : ByteArray)) ([] : List TEntry) 0)]))).length : Int) then (if 0 ≤ i18 ∧ i18 ≤ (((out13 ++ ([(TCached.mk (TValue.mk 0 0 (⟨#[]⟩ : ByteArray)) ([] : List TEntry) 0)]))).length : Int) ∧ (((out13 ++ ([(TCached.mk (TValue.mk 0 0 (⟨#[]⟩ : ByteArray)) ([] : List TEntry) 0)]))).length : Int) ≤ (((out13 ++ ([(TCached.mk (TValue.mk 0 0 (⟨#[]⟩ : ByteArray)) ([] : List TEntry) 0)]))).length : Int) then ((cache_Select k rows2 c5b.f2 want14b).bind fun y_29 => (if 0 ≤ i18 ∧ i18 < (((out13 ++ ([(TCached.mk (TValue.mk 0 0 (⟨#[]⟩ : ByteArray)) ([] : List TEntry) 0)]))).length : Int) then ((cache_copied k ((((copyL (out13 ++ ([(TCached.mk (TValue.mk 0 0 (⟨#[]⟩ : ByteArray)) ([] : List TEntry) 0)])) (IntKind.i64.wrap (i18 + 1)) (((out13 ++ ([(TCached.mk (TValue.mk 0 0 (⟨#[]⟩ : ByteArray)) ([] : List TEntry) 0)]))).length : Int) (subL (out13 ++ ([(TCached.mk (TValue.mk 0 0 (⟨#[]⟩ : ByteArray)) ([] : List TEntry) 0)])) i18 (((out13 ++ ([(TCached.mk (TValue.mk 0 0 (⟨#[]⟩ : ByteArray)) ([] : List TEntry) 0)]))).length : Int))).set i18.toNat (TCached.mk want14b y_29 day4)).getD i18.toNat dCached).f1)).bind fun y_32 => (some (((copyL (out13 ++ ([(TCached.mk (TValue.mk 0 0 (⟨#[]⟩ : ByteArray)) ([] : List TEntry) 0)])) (IntKind.i64.wrap (i18 + 1)) (((out13 ++ ([(TCached.mk (TValue.mk 0 0 (⟨#[]⟩ : ByteArray)) ([] : List TEntry) 0)]))).length : Int) (subL (out13 ++ ([(TCached.mk (TValue.mk 0 0 (⟨#[]⟩ : ByteArray)) ([] : List TEntry) 0)])) i18 (((out13 ++ ([(TCached.mk (TValue.mk 0 0 (⟨#[]⟩ : ByteArray)) ([] : List TEntry) 0)]))).length : Int))).set i18.toNat (TCached.mk want14b y_29 day4)), y_32, 0))) else none)) else none) else none) else none))) else none) else (if (out13).length + ([(TCached.mk (TValue.mk 0 0 (⟨#[]⟩ : ByteArray)) ([] : List TEntry) 0)]).length ≤ maxLen ∧ ((out13).length + ([(TCached.mk (TValue.mk 0 0 (⟨#[]⟩ : ByteArray)) ([] : List TEntry) 0)]).length) * 64 ≤ 140737488355328 then (if 0 ≤ (IntKind.i64.wrap (i18 + 1)) ∧ (IntKind.i64.wrap (i18 + 1)) ≤ (((out13 ++ ([(TCached.mk (TValue.mk 0 0 (⟨#[]⟩ : ByteArray)) ([] : List TEntry) 0)]))).length : Int) ∧ (((out13 ++ ([(TCached.mk (TValue.mk 0 0 (⟨#[]⟩ : ByteArray)) ([] : List TEntry) 0)]))).length : Int) ≤ (((out13 ++ ([(TCached.mk (TValue.mk 0 0 (⟨#[]⟩ : ByteArray)) ([] : List TEntry) 0)]))).length : Int) then (if 0 ≤ i18 ∧ i18 ≤ (((out13 ++ ([(TCached.mk (TValue.mk 0 0 (⟨#[]⟩ : ByteArray)) ([] : List TEntry) 0)]))).length : Int) ∧ (((out13 ++ ([(TCached.mk (TValue.mk 0 0 (⟨#[]⟩ : ByteArray)) ([] : List TEntry) 0)]))).length : Int) ≤ (((out13 ++ ([(TCached.mk (TValue.mk 0 0 (⟨#[]⟩ : ByteArray)) ([] : List TEntry) 0)]))).length : Int) then ((cache_Select k rows2 c5b.f2 want14b).bind fun y_37 => (if 0 ≤ i18 ∧ i18 < (((out13 ++ ([(TCached.mk (TValue.mk 0 0 (⟨#[]⟩ : ByteArray)) ([] : List TEntry) 0)]))).length : Int) then ((cache_copied k ((((copyL (out13 ++ ([(TCached.mk (TValue.mk 0 0 (⟨#[]⟩ : ByteArray)) ([] : List TEntry) 0)])) (IntKind.i64.wrap (i18 + 1)) (((out13 ++ ([(TCached.mk (TValue.mk 0 0 (⟨#[]⟩ : ByteArray)) ([] : List TEntry) 0)]))).length : Int) (subL (out13 ++ ([(TCached.mk (TValue.mk 0 0 (⟨#[]⟩ : ByteArray)) ([] : List TEntry) 0)])) i18 (((out13 ++ ([(TCached.mk (TValue.mk 0 0 (⟨#[]⟩ : ByteArray)) ([] : List TEntry) 0)]))).length : Int))).set i18.toNat (TCached.mk want14b y_37 day4)).getD i18.toNat dCached).f1)).bind fun y_40 => (some (((copyL (out13 ++ ([(TCached.mk (TValue.mk 0 0 (⟨#[]⟩ : ByteArray)) ([] : List TEntry) 0)])) (IntKind.i64.wrap (i18 + 1)) (((out13 ++ ([(TCached.mk (TValue.mk 0 0 (⟨#[]⟩ : ByteArray)) ([] : List TEntry) 0)]))).length : Int) (subL (out13 ++ ([(TCached.mk (TValue.mk 0 0 (⟨#[]⟩ : ByteArray)) ([] : List TEntry) 0)])) i18 (((out13 ++ ([(TCached.mk (TValue.mk 0 0 (⟨#[]⟩ : ByteArray)) ([] : List TEntry) 0)]))).length : Int))).set i18.toNat (TCached.mk want14b y_37 day4)), y_40, 0))) else none)) else none) else none) else none)
noncomputable def cache_Lookup.p2  : Nat → (List TEntry) → Int → Int → Int → TCache → (List TCached) → TValue → Option ((List TCached) × (List TEntry) × Int)
  | 0, _, _, _, _, _, _, _ => none
  | k + 1, rows2, day4, oldest16, i17, c5b, out13, want14b => if (decide (i17 < ((out13).length : Int))) = true then (if 0 ≤ i17 ∧ i17 < ((out13).length : Int) then (if 0 ≤ oldest16 ∧ oldest16 < ((out13).length : Int) then (if (decide ((out13.getD i17.toNat dCached).f2 < (out13.getD oldest16.toNat dCached).f2)) = true then (cache_Lookup.p2 k rows2 day4 i17 (IntKind.i64.wrap (i17 + 1)) c5b out13 want14b) else (cache_Lookup.p2 k rows2 day4 oldest16 (IntKind.i64.wrap (i17 + 1)) c5b out13 want14b)) else none) else none) else (if 0 ≤ (0 : Int) ∧ (0 : Int) ≤ oldest16 ∧ oldest16 ≤ ((out13).length : Int) then (if 0 ≤ (IntKind.i64.wrap (oldest16 + 1)) ∧ (IntKind.i64.wrap (oldest16 + 1)) ≤ ((out13).length : Int) ∧ ((out13).length : Int) ≤ ((out13).length : Int) then (if (oldest16.toNat - (0 : Int).toNat) + (((out13).length : Int).toNat - (IntKind.i64.wrap (oldest16 + 1)).toNat) ≤ maxLen ∧ ((oldest16.toNat - (0 : Int).toNat) + (((out13).length : Int).toNat - (IntKind.i64.wrap (oldest16 + 1)).toNat)) * 64 ≤ 140737488355328 then (cache_Lookup.p3 k rows2 day4 0 c5b (subL out13 0 oldest16 ++ subL out13 (IntKind.i64.wrap (oldest16 + 1)) ((out13).length : Int)) want14b) else none) else none) else none)
noncomputable def cache_Lookup.p1  : Nat → (List TEntry) → Int → Int → TCache → (List TCached) → TValue → Option ((List TCached) × (List TEntry) × Int)
  | 0, _, _, _, _, _, _ => none
  | k + 1, rows2, day4, i15, c5b, out13, want14b => if (decide (i15 < ((out13).length : Int))) = true then (if 0 ≤ i15 ∧ i15 < ((out13).length : Int) then (if (((out13.getD i15.toNat dCached).f0.f0 == want14b.f0) && (((out13.getD i15.toNat dCached).f0.f1 == want14b.f1) && ((((out13.getD i15.toNat dCached).f0.f2).data.toList == want14b.f2.data.toList) && true))) = true then ((cache_copied k ((out13.getD i15.toNat dCached).f1)).bind fun y_11 => (some (out13, y_11, 0))) else (cache_Lookup.p1 k rows2 day4 (IntKind.i64.wrap (i15 + 1)) c5b out13 want14b)) else none) else (if (decide (((out13).length : Int) ≥ 16)) = true then (cache_Lookup.p2 k rows2 day4 0 1 c5b out13 want14b) else (cache_Lookup.p3 k rows2 day4 0 c5b out13 want14b))
noncomputable def cache_Lookup  (k : Nat) (c0 : TCache) (s1 : (List TCached)) (rows2 : (List TEntry)) (v3 : TValue) (day4 : Int) : Option ((List TCached) × (List TEntry) × Int) := (cache_usable k c0 s1 rows2 day4).bind fun y_1 => (if (!y_1) = true then (some (([] : List TCached), ([] : List TEntry), 1)) else ((cache_Expire k c0 s1 day4).bind fun y_4 => ((value_Clean k v3).bind fun y_6 => (cache_Lookup.p1 k rows2 day4 0 c0 y_4 y_6))))
noncomputable def cache_Lookup.t : List Item := [.code (bodyOf Try.f17)]
noncomputable def cache_Lookup.s (c0 : TCache) (s1 : (List TCached)) (rows2 : (List TEntry)) (v3 : TValue) (day4 : Int) : St := ⟨frOf Try.f17.ntmps 0 [(0, .agg ((cCache c0).map .p)), (1, .p (eL 5 cCached dCached s1)), (2, .p (eL 2 cEntry dEntry rows2)), (3, .agg ((cValue v3).map .p)), (4, .p (.int .i64 day4))], []⟩
noncomputable def cache_Lookup.p1.t : List Item := nav 16 [false] cache_Lookup.t
noncomputable def cache_Lookup.p1.s (rows2 : (List TEntry)) (day4 : Int) (i15 : Int) (c5b : TCache) (out13 : (List TCached)) (want14b : TValue) : St := ⟨frOf Try.f17.ntmps 0 [(2, .p (eL 2 cEntry dEntry rows2)), (4, .p (.int .i64 day4)), (5, .ptr 0 0 0), (13, .sref 1 46 5 (out13).length), (14, .ptr 2 0 0), (15, .p (.int .i64 i15))], [.box ((cCache c5b).map .p), (oL true 46 5 cCached dCached out13), .box ((cValue want14b).map .p)]⟩
noncomputable def cache_Lookup.p2.t : List Item := nav 16 [false, true] cache_Lookup.p1.t
noncomputable def cache_Lookup.p2.s (rows2 : (List TEntry)) (day4 : Int) (oldest16 : Int) (i17 : Int) (c5b : TCache) (out13 : (List TCached)) (want14b : TValue) : St := ⟨frOf Try.f17.ntmps 0 [(2, .p (eL 2 cEntry dEntry rows2)), (4, .p (.int .i64 day4)), (5, .ptr 0 0 0), (13, .sref 1 46 5 (out13).length), (14, .ptr 2 0 0), (16, .p (.int .i64 oldest16)), (17, .p (.int .i64 i17))], [.box ((cCache c5b).map .p), (oL true 46 5 cCached dCached out13), .box ((cValue want14b).map .p)]⟩
noncomputable def cache_Lookup.p3.t : List Item := nav 11 [false] cache_Lookup.p2.t
noncomputable def cache_Lookup.p3.s (rows2 : (List TEntry)) (day4 : Int) (i18 : Int) (c5b : TCache) (out13 : (List TCached)) (want14b : TValue) : St := ⟨frOf Try.f17.ntmps 0 [(2, .p (eL 2 cEntry dEntry rows2)), (4, .p (.int .i64 day4)), (5, .ptr 0 0 0), (13, .sref 1 46 5 (out13).length), (14, .ptr 2 0 0), (18, .p (.int .i64 i18))], [.box ((cCache c5b).map .p), (oL true 46 5 cCached dCached out13), .box ((cValue want14b).map .p)]⟩
theorem cache_Lookup.p3.run   : ∀ (k : Nat) (rows2 : (List TEntry)) (day4 : Int) (i18 : Int) (c5b : TCache) (out13 : (List TCached)) (want14b : TValue) (r : ((List TCached) × (List TEntry) × Int)), cache_Lookup.p3 k rows2 day4 i18 c5b out13 want14b = some r → RunC Try.prog Try.f17 cache_Lookup.p3.t (cache_Lookup.p3.s rows2 day4 i18 c5b out13 want14b) (.tup [.sref 0 46 5 (r.1).length, .sref 1 36 2 (r.2.1).length, .p (.int .i64 r.2.2)]) [(oL true 46 5 cCached dCached (r.1)), (oL true 36 2 cEntry dEntry (r.2.1))] := by
  intro k
  induction k with
  | zero => intro rows2 day4 i18 c5b out13 want14b r h; simp [cache_Lookup.p3] at h
  | succ k ih =>
    intro rows2 day4 i18 c5b out13 want14b r h
    rw [cache_Lookup.p3] at h
    rcases ite_or h with ⟨g_21, h⟩ | ⟨g_21, h⟩
    · obtain ⟨g_22, h⟩ := ite_some h
      obtain ⟨y_23, e_24, h⟩ := bind_or h
      rcases ite_or h with ⟨g_25, h⟩ | ⟨g_25, h⟩
      · exact RunC.go [.n 2, .r [(4, .dec true), (11, .call (.p (.int .i64 y_23)) []), (13, .dec true)], .n 6, .k [2, 4, 5, 13, 14, 18]] (by kernel_rfl) (Obs.of (by kernel_rfl) (And.intro g_21 (And.intro g_22 (And.intro (value_Compare.spec e_24) g_25)))) (ih _ _ _ _ _ _ r h)
      · obtain ⟨g_26, h⟩ := ite_some h
        obtain ⟨g_27, h⟩ := ite_some h
        obtain ⟨g_28, h⟩ := ite_some h
        obtain ⟨y_29, e_30, h⟩ := bind_or h
        obtain ⟨g_31, h⟩ := ite_some h
        obtain ⟨y_32, e_33, h⟩ := bind_or h
        obtain rfl := Option.some.inj h
        exact RunC.out [.n 2, .r [(4, .dec true), (11, .call (.p (.int .i64 y_23)) []), (13, .dec false)], .n 3, .r [(1, .fv (.agg [.p (.int .i64 0), .p (.int .i64 0), .p (.str (⟨#[]⟩ : ByteArray)), .p (eL 2 cEntry dEntry ([] : List TEntry)), .p (.int .i64 0)])), (2, .obj (oL true 46 5 cCached dCached [(TCached.mk (TValue.mk 0 0 (⟨#[]⟩ : ByteArray)) ([] : List TEntry) 0)])), (3, .obj (oL true 46 5 cCached dCached (out13 ++ ([(TCached.mk (TValue.mk 0 0 (⟨#[]⟩ : ByteArray)) ([] : List TEntry) 0)]))))], .n 1, .r [(7, .obj (oL true 46 5 cCached dCached (copyL (out13 ++ ([(TCached.mk (TValue.mk 0 0 (⟨#[]⟩ : ByteArray)) ([] : List TEntry) 0)])) (IntKind.i64.wrap (i18 + 1)) (((out13 ++ ([(TCached.mk (TValue.mk 0 0 (⟨#[]⟩ : ByteArray)) ([] : List TEntry) 0)]))).length : Int) (subL (out13 ++ ([(TCached.mk (TValue.mk 0 0 (⟨#[]⟩ : ByteArray)) ([] : List TEntry) 0)])) i18 (((out13 ++ ([(TCached.mk (TValue.mk 0 0 (⟨#[]⟩ : ByteArray)) ([] : List TEntry) 0)]))).length : Int)))))], .n 1, .r [(7, .call (.sref 0 36 2 (y_29).length) [(oL true 36 2 cEntry dEntry y_29)]), (11, .obj (oL true 46 5 cCached dCached ((copyL (out13 ++ ([(TCached.mk (TValue.mk 0 0 (⟨#[]⟩ : ByteArray)) ([] : List TEntry) 0)])) (IntKind.i64.wrap (i18 + 1)) (((out13 ++ ([(TCached.mk (TValue.mk 0 0 (⟨#[]⟩ : ByteArray)) ([] : List TEntry) 0)]))).length : Int) (subL (out13 ++ ([(TCached.mk (TValue.mk 0 0 (⟨#[]⟩ : ByteArray)) ([] : List TEntry) 0)])) i18 (((out13 ++ ([(TCached.mk (TValue.mk 0 0 (⟨#[]⟩ : ByteArray)) ([] : List TEntry) 0)]))).length : Int))).set i18.toNat (TCached.mk want14b y_29 day4))))], .n 1, .r [(6, .call (.sref 0 36 2 (y_32).length) [(oL true 36 2 cEntry dEntry y_32)])]] (by kernel_rfl) (Obs.of (by kernel_rfl) (And.intro g_21 (And.intro g_22 (And.intro (value_Compare.spec e_24) (And.intro (nt g_25) (And.intro (fle_agg (fls_cons (fle_rfl (.p (.int .i64 0))) (fls_cons (fle_rfl (.p (.int .i64 0))) (fls_cons (fle_rfl (.p (.str (⟨#[]⟩ : ByteArray)))) (fls_cons (fle_nil 2 cEntry dEntry) (fls_cons (fle_rfl (.p (.int .i64 0))) fls_nil)))))) (And.intro (le_one 46 5 cCached dCached (TCached.mk (TValue.mk 0 0 (⟨#[]⟩ : ByteArray)) ([] : List TEntry) 0)) (And.intro (And.intro g_26 (le_app 46 5 cCached dCached out13 ([(TCached.mk (TValue.mk 0 0 (⟨#[]⟩ : ByteArray)) ([] : List TEntry) 0)]))) (And.intro g_27 (And.intro g_28 (And.intro (le_copySS 46 5 cCached dCached (out13 ++ ([(TCached.mk (TValue.mk 0 0 (⟨#[]⟩ : ByteArray)) ([] : List TEntry) 0)])) (out13 ++ ([(TCached.mk (TValue.mk 0 0 (⟨#[]⟩ : ByteArray)) ([] : List TEntry) 0)])) (IntKind.i64.wrap (i18 + 1)) (((out13 ++ ([(TCached.mk (TValue.mk 0 0 (⟨#[]⟩ : ByteArray)) ([] : List TEntry) 0)]))).length : Int) i18 (((out13 ++ ([(TCached.mk (TValue.mk 0 0 (⟨#[]⟩ : ByteArray)) ([] : List TEntry) 0)]))).length : Int) g_27 g_28) (And.intro (cache_Select.spec e_30) (And.intro g_31 (And.intro (le_set 46 5 cCached dCached (copyL (out13 ++ ([(TCached.mk (TValue.mk 0 0 (⟨#[]⟩ : ByteArray)) ([] : List TEntry) 0)])) (IntKind.i64.wrap (i18 + 1)) (((out13 ++ ([(TCached.mk (TValue.mk 0 0 (⟨#[]⟩ : ByteArray)) ([] : List TEntry) 0)]))).length : Int) (subL (out13 ++ ([(TCached.mk (TValue.mk 0 0 (⟨#[]⟩ : ByteArray)) ([] : List TEntry) 0)])) i18 (((out13 ++ ([(TCached.mk (TValue.mk 0 0 (⟨#[]⟩ : ByteArray)) ([] : List TEntry) 0)]))).length : Int))) (TCached.mk want14b y_29 day4) i18.toNat rfl) (And.intro g_31 (cache_copied.spec e_33))))))))))))))))
    · obtain ⟨g_34, h⟩ := ite_some h
      obtain ⟨g_35, h⟩ := ite_some h
      obtain ⟨g_36, h⟩ := ite_some h
      obtain ⟨y_37, e_38, h⟩ := bind_or h
      obtain ⟨g_39, h⟩ := ite_some h
      obtain ⟨y_40, e_41, h⟩ := bind_or h
      obtain rfl := Option.some.inj h
      exact RunC.out [.n 2, .r [(4, .dec false)], .n 3, .r [(1, .fv (.agg [.p (.int .i64 0), .p (.int .i64 0), .p (.str (⟨#[]⟩ : ByteArray)), .p (eL 2 cEntry dEntry ([] : List TEntry)), .p (.int .i64 0)])), (2, .obj (oL true 46 5 cCached dCached [(TCached.mk (TValue.mk 0 0 (⟨#[]⟩ : ByteArray)) ([] : List TEntry) 0)])), (3, .obj (oL true 46 5 cCached dCached (out13 ++ ([(TCached.mk (TValue.mk 0 0 (⟨#[]⟩ : ByteArray)) ([] : List TEntry) 0)]))))], .n 1, .r [(7, .obj (oL true 46 5 cCached dCached (copyL (out13 ++ ([(TCached.mk (TValue.mk 0 0 (⟨#[]⟩ : ByteArray)) ([] : List TEntry) 0)])) (IntKind.i64.wrap (i18 + 1)) (((out13 ++ ([(TCached.mk (TValue.mk 0 0 (⟨#[]⟩ : ByteArray)) ([] : List TEntry) 0)]))).length : Int) (subL (out13 ++ ([(TCached.mk (TValue.mk 0 0 (⟨#[]⟩ : ByteArray)) ([] : List TEntry) 0)])) i18 (((out13 ++ ([(TCached.mk (TValue.mk 0 0 (⟨#[]⟩ : ByteArray)) ([] : List TEntry) 0)]))).length : Int)))))], .n 1, .r [(7, .call (.sref 0 36 2 (y_37).length) [(oL true 36 2 cEntry dEntry y_37)]), (11, .obj (oL true 46 5 cCached dCached ((copyL (out13 ++ ([(TCached.mk (TValue.mk 0 0 (⟨#[]⟩ : ByteArray)) ([] : List TEntry) 0)])) (IntKind.i64.wrap (i18 + 1)) (((out13 ++ ([(TCached.mk (TValue.mk 0 0 (⟨#[]⟩ : ByteArray)) ([] : List TEntry) 0)]))).length : Int) (subL (out13 ++ ([(TCached.mk (TValue.mk 0 0 (⟨#[]⟩ : ByteArray)) ([] : List TEntry) 0)])) i18 (((out13 ++ ([(TCached.mk (TValue.mk 0 0 (⟨#[]⟩ : ByteArray)) ([] : List TEntry) 0)]))).length : Int))).set i18.toNat (TCached.mk want14b y_37 day4))))], .n 1, .r [(6, .call (.sref 0 36 2 (y_40).length) [(oL true 36 2 cEntry dEntry y_40)])]] (by kernel_rfl) (Obs.of (by kernel_rfl) (And.intro (nt g_21) (And.intro (fle_agg (fls_cons (fle_rfl (.p (.int .i64 0))) (fls_cons (fle_rfl (.p (.int .i64 0))) (fls_cons (fle_rfl (.p (.str (⟨#[]⟩ : ByteArray)))) (fls_cons (fle_nil 2 cEntry dEntry) (fls_cons (fle_rfl (.p (.int .i64 0))) fls_nil)))))) (And.intro (le_one 46 5 cCached dCached (TCached.mk (TValue.mk 0 0 (⟨#[]⟩ : ByteArray)) ([] : List TEntry) 0)) (And.intro (And.intro g_34 (le_app 46 5 cCached dCached out13 ([(TCached.mk (TValue.mk 0 0 (⟨#[]⟩ : ByteArray)) ([] : List TEntry) 0)]))) (And.intro g_35 (And.intro g_36 (And.intro (le_copySS 46 5 cCached dCached (out13 ++ ([(TCached.mk (TValue.mk 0 0 (⟨#[]⟩ : ByteArray)) ([] : List TEntry) 0)])) (out13 ++ ([(TCached.mk (TValue.mk 0 0 (⟨#[]⟩ : ByteArray)) ([] : List TEntry) 0)])) (IntKind.i64.wrap (i18 + 1)) (((out13 ++ ([(TCached.mk (TValue.mk 0 0 (⟨#[]⟩ : ByteArray)) ([] : List TEntry) 0)]))).length : Int) i18 (((out13 ++ ([(TCached.mk (TValue.mk 0 0 (⟨#[]⟩ : ByteArray)) ([] : List TEntry) 0)]))).length : Int) g_35 g_36) (And.intro (cache_Select.spec e_38) (And.intro g_39 (And.intro (le_set 46 5 cCached dCached (copyL (out13 ++ ([(TCached.mk (TValue.mk 0 0 (⟨#[]⟩ : ByteArray)) ([] : List TEntry) 0)])) (IntKind.i64.wrap (i18 + 1)) (((out13 ++ ([(TCached.mk (TValue.mk 0 0 (⟨#[]⟩ : ByteArray)) ([] : List TEntry) 0)]))).length : Int) (subL (out13 ++ ([(TCached.mk (TValue.mk 0 0 (⟨#[]⟩ : ByteArray)) ([] : List TEntry) 0)])) i18 (((out13 ++ ([(TCached.mk (TValue.mk 0 0 (⟨#[]⟩ : ByteArray)) ([] : List TEntry) 0)]))).length : Int))) (TCached.mk want14b y_37 day4) i18.toNat rfl) (And.intro g_39 (cache_copied.spec e_41)))))))))))))
theorem cache_Lookup.p2.run   : ∀ (k : Nat) (rows2 : (List TEntry)) (day4 : Int) (oldest16 : Int) (i17 : Int) (c5b : TCache) (out13 : (List TCached)) (want14b : TValue) (r : ((List TCached) × (List TEntry) × Int)), cache_Lookup.p2 k rows2 day4 oldest16 i17 c5b out13 want14b = some r → RunC Try.prog Try.f17 cache_Lookup.p2.t (cache_Lookup.p2.s rows2 day4 oldest16 i17 c5b out13 want14b) (.tup [.sref 0 46 5 (r.1).length, .sref 1 36 2 (r.2.1).length, .p (.int .i64 r.2.2)]) [(oL true 46 5 cCached dCached (r.1)), (oL true 36 2 cEntry dEntry (r.2.1))] := by
  intro k
  induction k with
  | zero => intro rows2 day4 oldest16 i17 c5b out13 want14b r h; simp [cache_Lookup.p2] at h
  | succ k ih =>
    intro rows2 day4 oldest16 i17 c5b out13 want14b r h
    rw [cache_Lookup.p2] at h
    rcases ite_or h with ⟨g_14, h⟩ | ⟨g_14, h⟩
    · obtain ⟨g_15, h⟩ := ite_some h
      obtain ⟨g_16, h⟩ := ite_some h
      rcases ite_or h with ⟨g_17, h⟩ | ⟨g_17, h⟩
      · exact RunC.go [.n 2, .r [(3, .dec true)], .n 5, .r [(10, .dec true)], .n 5, .k [2, 4, 5, 13, 14, 16, 17]] (by kernel_rfl) (Obs.of (by kernel_rfl) (And.intro g_14 (And.intro g_15 (And.intro g_16 g_17)))) (ih _ _ _ _ _ _ _ r h)
      · exact RunC.go [.n 2, .r [(3, .dec true)], .n 5, .r [(10, .dec false)], .n 5, .k [2, 4, 5, 13, 14, 16, 17]] (by kernel_rfl) (Obs.of (by kernel_rfl) (And.intro g_14 (And.intro g_15 (And.intro g_16 (nt g_17))))) (ih _ _ _ _ _ _ _ r h)
    · obtain ⟨g_18, h⟩ := ite_some h
      obtain ⟨g_19, h⟩ := ite_some h
      obtain ⟨g_20, h⟩ := ite_some h
      exact RunC.go [.n 2, .r [(3, .dec false)], .n 2, .r [(7, .obj (oL true 46 5 cCached dCached (subL out13 0 oldest16 ++ subL out13 (IntKind.i64.wrap (oldest16 + 1)) ((out13).length : Int))))], .n 5, .k [2, 4, 5, 13, 14, 18]] (by kernel_rfl) (Obs.of (by kernel_rfl) (And.intro (nt g_14) (And.intro g_18 (And.intro g_19 (And.intro g_20 (le_appSS 46 5 cCached dCached out13 out13 oldest16 (IntKind.i64.wrap (oldest16 + 1)) ((out13).length : Int) g_18 g_19)))))) (cache_Lookup.p3.run k _ _ _ _ _ _ r h)
theorem cache_Lookup.p1.run   : ∀ (k : Nat) (rows2 : (List TEntry)) (day4 : Int) (i15 : Int) (c5b : TCache) (out13 : (List TCached)) (want14b : TValue) (r : ((List TCached) × (List TEntry) × Int)), cache_Lookup.p1 k rows2 day4 i15 c5b out13 want14b = some r → RunC Try.prog Try.f17 cache_Lookup.p1.t (cache_Lookup.p1.s rows2 day4 i15 c5b out13 want14b) (.tup [.sref 0 46 5 (r.1).length, .sref 1 36 2 (r.2.1).length, .p (.int .i64 r.2.2)]) [(oL true 46 5 cCached dCached (r.1)), (oL true 36 2 cEntry dEntry (r.2.1))] := by
  intro k
  induction k with
  | zero => intro rows2 day4 i15 c5b out13 want14b r h; simp [cache_Lookup.p1] at h
  | succ k ih =>
    intro rows2 day4 i15 c5b out13 want14b r h
    rw [cache_Lookup.p1] at h
    rcases ite_or h with ⟨g_8, h⟩ | ⟨g_8, h⟩
    · obtain ⟨g_9, h⟩ := ite_some h
      rcases ite_or h with ⟨g_10, h⟩ | ⟨g_10, h⟩
      · obtain ⟨y_11, e_12, h⟩ := bind_or h
        obtain rfl := Option.some.inj h
        exact RunC.out [.n 2, .r [(3, .dec true)], .n 5, .r [(6, .dec true)], .n 2, .r [(6, .call (.sref 0 36 2 (y_11).length) [(oL true 36 2 cEntry dEntry y_11)])]] (by kernel_rfl) (Obs.of (by kernel_rfl) (And.intro g_8 (And.intro g_9 (And.intro g_10 (And.intro g_9 (cache_copied.spec e_12))))))
      · exact RunC.go [.n 2, .r [(3, .dec true)], .n 5, .r [(6, .dec false)], .n 5, .k [2, 4, 5, 13, 14, 15]] (by kernel_rfl) (Obs.of (by kernel_rfl) (And.intro g_8 (And.intro g_9 (nt g_10)))) (ih _ _ _ _ _ _ r h)
    · rcases ite_or h with ⟨g_13, h⟩ | ⟨g_13, h⟩
      · exact RunC.go [.n 2, .r [(3, .dec false)], .n 4, .r [(2, .dec true)], .n 8, .k [2, 4, 5, 13, 14, 16, 17]] (by kernel_rfl) (Obs.of (by kernel_rfl) (And.intro (nt g_8) g_13)) (cache_Lookup.p2.run k _ _ _ _ _ _ _ r h)
      · exact RunC.go [.n 2, .r [(3, .dec false)], .n 4, .r [(2, .dec false)], .n 7, .k [2, 4, 5, 13, 14, 18]] (by kernel_rfl) (Obs.of (by kernel_rfl) (And.intro (nt g_8) (nt g_13))) (cache_Lookup.p3.run k _ _ _ _ _ _ r h)
theorem cache_Lookup.run   {k : Nat} {c0 : TCache} {s1 : (List TCached)} {rows2 : (List TEntry)} {v3 : TValue} {day4 : Int} {r : ((List TCached) × (List TEntry) × Int)} (h : cache_Lookup k c0 s1 rows2 v3 day4 = some r) : RunC Try.prog Try.f17 cache_Lookup.t (cache_Lookup.s c0 s1 rows2 v3 day4) (.tup [.sref 0 46 5 (r.1).length, .sref 1 36 2 (r.2.1).length, .p (.int .i64 r.2.2)]) [(oL true 46 5 cCached dCached (r.1)), (oL true 36 2 cEntry dEntry (r.2.1))] := by
  unfold cache_Lookup at h
  obtain ⟨y_1, e_2, h⟩ := bind_or h
  rcases ite_or h with ⟨g_3, h⟩ | ⟨g_3, h⟩
  · obtain rfl := Option.some.inj h
    exact RunC.out [.n 1, .r [(2, .obj (oL true 46 5 cCached dCached ([] : List TCached))), (3, .obj (oL true 36 2 cEntry dEntry ([] : List TEntry)))], .n 2, .r [(4, .call (.p (.bool y_1)) []), (5, .dec true)], .n 2, .r [(0, .obj (oL true 46 5 cCached dCached ([] : List TCached))), (1, .obj (oL true 36 2 cEntry dEntry ([] : List TEntry)))]] (by kernel_rfl) (Obs.of (by kernel_rfl) (And.intro (le_nil 46 5 cCached dCached) (And.intro (le_nil 36 2 cEntry dEntry) (And.intro (cache_usable.spec e_2) (And.intro g_3 (And.intro (le_nil 46 5 cCached dCached) (le_nil 36 2 cEntry dEntry)))))))
  · obtain ⟨y_4, e_5, h⟩ := bind_or h
    obtain ⟨y_6, e_7, h⟩ := bind_or h
    exact RunC.go [.n 1, .r [(2, .obj (oL true 46 5 cCached dCached ([] : List TCached))), (3, .obj (oL true 36 2 cEntry dEntry ([] : List TEntry)))], .n 2, .r [(4, .call (.p (.bool y_1)) []), (5, .dec false)], .n 3, .r [(3, .call (.sref 0 46 5 (y_4).length) [(oL true 46 5 cCached dCached y_4)])], .n 1, .r [(1, .call (.agg ((cValue y_6).map .p)) [])], .n 5, .k [2, 4, 5, 13, 14, 15]] (by kernel_rfl) (Obs.of (by kernel_rfl) (And.intro (le_nil 46 5 cCached dCached) (And.intro (le_nil 36 2 cEntry dEntry) (And.intro (cache_usable.spec e_2) (And.intro (nt g_3) (And.intro (cache_Expire.spec e_5) (value_Clean.spec e_7))))))) (cache_Lookup.p1.run k _ _ _ _ _ _ r h)
theorem cache_Lookup.p3.mono   : ∀ (k k' : Nat) (rows2 : (List TEntry)) (day4 : Int) (i18 : Int) (c5b : TCache) (out13 : (List TCached)) (want14b : TValue) (r : ((List TCached) × (List TEntry) × Int)), k ≤ k' → cache_Lookup.p3 k rows2 day4 i18 c5b out13 want14b = some r → cache_Lookup.p3 k' rows2 day4 i18 c5b out13 want14b = some r := by
  intro k
  induction k with
  | zero => intro k' rows2 day4 i18 c5b out13 want14b r hk h; simp [cache_Lookup.p3] at h
  | succ k ih =>
    intro k' rows2 day4 i18 c5b out13 want14b r hk h
    obtain ⟨k', rfl⟩ : ∃ m, k' = m + 1 := ⟨k' - 1, by omega⟩
    replace hk := Nat.le_of_succ_le_succ hk
    rw [cache_Lookup.p3] at h ⊢
    rcases ite_or h with ⟨g_21, h⟩ | ⟨g_21, h⟩
    · refine itp g_21 ?_
      obtain ⟨g_22, h⟩ := ite_some h
      refine itp g_22 ?_
      obtain ⟨y_23, e_24, h⟩ := bind_or h
      refine bnd (value_Compare.mono _ _ _ _ _ hk e_24) ?_
      rcases ite_or h with ⟨g_25, h⟩ | ⟨g_25, h⟩
      · refine itp g_25 ?_
        exact ih _ _ _ _ _ _ _ r hk h
      · refine itn g_25 ?_
        obtain ⟨g_26, h⟩ := ite_some h
        refine itp g_26 ?_
        obtain ⟨g_27, h⟩ := ite_some h
        refine itp g_27 ?_
        obtain ⟨g_28, h⟩ := ite_some h
        refine itp g_28 ?_
        obtain ⟨y_29, e_30, h⟩ := bind_or h
        refine bnd (cache_Select.mono _ _ _ _ _ _ hk e_30) ?_
        obtain ⟨g_31, h⟩ := ite_some h
        refine itp g_31 ?_
        obtain ⟨y_32, e_33, h⟩ := bind_or h
        refine bnd (cache_copied.mono _ _ _ _ hk e_33) ?_
        exact h
    · refine itn g_21 ?_
      obtain ⟨g_34, h⟩ := ite_some h
      refine itp g_34 ?_
      obtain ⟨g_35, h⟩ := ite_some h
      refine itp g_35 ?_
      obtain ⟨g_36, h⟩ := ite_some h
      refine itp g_36 ?_
      obtain ⟨y_37, e_38, h⟩ := bind_or h
      refine bnd (cache_Select.mono _ _ _ _ _ _ hk e_38) ?_
      obtain ⟨g_39, h⟩ := ite_some h
      refine itp g_39 ?_
      obtain ⟨y_40, e_41, h⟩ := bind_or h
      refine bnd (cache_copied.mono _ _ _ _ hk e_41) ?_
      exact h
theorem cache_Lookup.p2.mono   : ∀ (k k' : Nat) (rows2 : (List TEntry)) (day4 : Int) (oldest16 : Int) (i17 : Int) (c5b : TCache) (out13 : (List TCached)) (want14b : TValue) (r : ((List TCached) × (List TEntry) × Int)), k ≤ k' → cache_Lookup.p2 k rows2 day4 oldest16 i17 c5b out13 want14b = some r → cache_Lookup.p2 k' rows2 day4 oldest16 i17 c5b out13 want14b = some r := by
  intro k
  induction k with
  | zero => intro k' rows2 day4 oldest16 i17 c5b out13 want14b r hk h; simp [cache_Lookup.p2] at h
  | succ k ih =>
    intro k' rows2 day4 oldest16 i17 c5b out13 want14b r hk h
    obtain ⟨k', rfl⟩ : ∃ m, k' = m + 1 := ⟨k' - 1, by omega⟩
    replace hk := Nat.le_of_succ_le_succ hk
    rw [cache_Lookup.p2] at h ⊢
    rcases ite_or h with ⟨g_14, h⟩ | ⟨g_14, h⟩
    · refine itp g_14 ?_
      obtain ⟨g_15, h⟩ := ite_some h
      refine itp g_15 ?_
      obtain ⟨g_16, h⟩ := ite_some h
      refine itp g_16 ?_
      rcases ite_or h with ⟨g_17, h⟩ | ⟨g_17, h⟩
      · refine itp g_17 ?_
        exact ih _ _ _ _ _ _ _ _ r hk h
      · refine itn g_17 ?_
        exact ih _ _ _ _ _ _ _ _ r hk h
    · refine itn g_14 ?_
      obtain ⟨g_18, h⟩ := ite_some h
      refine itp g_18 ?_
      obtain ⟨g_19, h⟩ := ite_some h
      refine itp g_19 ?_
      obtain ⟨g_20, h⟩ := ite_some h
      refine itp g_20 ?_
      exact cache_Lookup.p3.mono _ _ _ _ _ _ _ _ r hk h
theorem cache_Lookup.p1.mono   : ∀ (k k' : Nat) (rows2 : (List TEntry)) (day4 : Int) (i15 : Int) (c5b : TCache) (out13 : (List TCached)) (want14b : TValue) (r : ((List TCached) × (List TEntry) × Int)), k ≤ k' → cache_Lookup.p1 k rows2 day4 i15 c5b out13 want14b = some r → cache_Lookup.p1 k' rows2 day4 i15 c5b out13 want14b = some r := by
  intro k
  induction k with
  | zero => intro k' rows2 day4 i15 c5b out13 want14b r hk h; simp [cache_Lookup.p1] at h
  | succ k ih =>
    intro k' rows2 day4 i15 c5b out13 want14b r hk h
    obtain ⟨k', rfl⟩ : ∃ m, k' = m + 1 := ⟨k' - 1, by omega⟩
    replace hk := Nat.le_of_succ_le_succ hk
    rw [cache_Lookup.p1] at h ⊢
    rcases ite_or h with ⟨g_8, h⟩ | ⟨g_8, h⟩
    · refine itp g_8 ?_
      obtain ⟨g_9, h⟩ := ite_some h
      refine itp g_9 ?_
      rcases ite_or h with ⟨g_10, h⟩ | ⟨g_10, h⟩
      · refine itp g_10 ?_
        obtain ⟨y_11, e_12, h⟩ := bind_or h
        refine bnd (cache_copied.mono _ _ _ _ hk e_12) ?_
        exact h
      · refine itn g_10 ?_
        exact ih _ _ _ _ _ _ _ r hk h
    · refine itn g_8 ?_
      rcases ite_or h with ⟨g_13, h⟩ | ⟨g_13, h⟩
      · refine itp g_13 ?_
        exact cache_Lookup.p2.mono _ _ _ _ _ _ _ _ _ r hk h
      · refine itn g_13 ?_
        exact cache_Lookup.p3.mono _ _ _ _ _ _ _ _ r hk h
theorem cache_Lookup.mono   : ∀ (k k' : Nat) (c0 : TCache) (s1 : (List TCached)) (rows2 : (List TEntry)) (v3 : TValue) (day4 : Int) (r : ((List TCached) × (List TEntry) × Int)), k ≤ k' → cache_Lookup k c0 s1 rows2 v3 day4 = some r → cache_Lookup k' c0 s1 rows2 v3 day4 = some r := by
  intro k k' c0 s1 rows2 v3 day4 r hk h
  unfold cache_Lookup at h ⊢
  obtain ⟨y_1, e_2, h⟩ := bind_or h
  refine bnd (cache_usable.mono _ _ _ _ _ _ _ hk e_2) ?_
  rcases ite_or h with ⟨g_3, h⟩ | ⟨g_3, h⟩
  · refine itp g_3 ?_
    exact h
  · refine itn g_3 ?_
    obtain ⟨y_4, e_5, h⟩ := bind_or h
    refine bnd (cache_Expire.mono _ _ _ _ _ _ hk e_5) ?_
    obtain ⟨y_6, e_7, h⟩ := bind_or h
    refine bnd (value_Clean.mono _ _ _ _ hk e_7) ?_
    exact cache_Lookup.p1.mono _ _ _ _ _ _ _ _ r hk h
theorem cache_Lookup.spec {k : Nat} {c0 : TCache} {s1 : (List TCached)} {rows2 : (List TEntry)} {v3 : TValue} {day4 : Int} {r : ((List TCached) × (List TEntry) × Int)} (h : cache_Lookup k c0 s1 rows2 v3 day4 = some r) : Spec Try.prog 17 [.agg ((cCache c0).map .p), .p (eL 5 cCached dCached s1), .p (eL 2 cEntry dEntry rows2), .agg ((cValue v3).map .p), .p (.int .i64 day4)] (.tup [.sref 0 46 5 (r.1).length, .sref 1 36 2 (r.2.1).length, .p (.int .i64 r.2.2)]) [(oL true 46 5 cCached dCached (r.1)), (oL true 36 2 cEntry dEntry (r.2.1))] :=
  spec_of mix Try.func17 (body := bodyOf Try.f17) (by kernel_rfl) (by kernel_rfl) (cache_Lookup.run h)
end Go.Proofs.YtjhnpaenhdbhpabV
set_option linter.unusedVariables false
set_option linter.unusedSimpArgs false
set_option maxRecDepth 100000
namespace Go.Proofs.YtjhnpaenhdbhpabV
open Go Go.RowKit
noncomputable def erasurelaw30_awake  (k : Nat)  : Option Bool := (erasureref01_Int k 7).bind fun y_1 => ((cache_Lookup k (TCache.mk (⟨#[]⟩ : ByteArray) (⟨#[]⟩ : ByteArray) 0 2) ([] : List TCached) ([(TEntry.mk ([y_1]) 3)]) y_1 5).bind fun y_3 => ((cache_Lookup k (TCache.mk (⟨#[]⟩ : ByteArray) (⟨#[]⟩ : ByteArray) 0 2) y_3.1 ([] : List TEntry) y_1 6).bind fun y_5 => ((cache_Lookup k (TCache.mk (⟨#[]⟩ : ByteArray) (⟨#[]⟩ : ByteArray) 0 2) y_5.1 ([] : List TEntry) y_1 7).bind fun y_7 => (if (y_3.2.2 == 0) = true then (if (y_5.2.2 == 0) = true then (if (y_7.2.2 == 0) = true then (if (((y_3.2.1).length : Int) == 1) = true then (if (((y_5.2.1).length : Int) == 1) = true then (some (((y_7.2.1).length : Int) == 0)) else (some false)) else (some false)) else (some false)) else (some false)) else (some false)))))
noncomputable def erasurelaw30_awake.t : List Item := [.code (bodyOf Try.f12)]
noncomputable def erasurelaw30_awake.s  : St := ⟨frOf Try.f12.ntmps 0 [], []⟩
theorem erasurelaw30_awake.run   {k : Nat}  {r : Bool} (h : erasurelaw30_awake k  = some r) : RunC Try.prog Try.f12 erasurelaw30_awake.t (erasurelaw30_awake.s ) (.p (.bool r)) [] := by
  unfold erasurelaw30_awake at h
  obtain ⟨y_1, e_2, h⟩ := bind_or h
  obtain ⟨y_3, e_4, h⟩ := bind_or h
  obtain ⟨y_5, e_6, h⟩ := bind_or h
  obtain ⟨y_7, e_8, h⟩ := bind_or h
  rcases ite_or h with ⟨g_9, h⟩ | ⟨g_9, h⟩
  · rcases ite_or h with ⟨g_10, h⟩ | ⟨g_10, h⟩
    · rcases ite_or h with ⟨g_11, h⟩ | ⟨g_11, h⟩
      · rcases ite_or h with ⟨g_12, h⟩ | ⟨g_12, h⟩
        · rcases ite_or h with ⟨g_13, h⟩ | ⟨g_13, h⟩
          · obtain rfl := Option.some.inj h
            exact RunC.out [.n 5, .r [(0, .call (.agg ((cValue y_1).map .p)) [])], .n 1, .r [(1, .obj (oL true 24 3 cValue dValue [y_1])), (3, .obj (oL true 36 2 cEntry dEntry [(TEntry.mk ([y_1]) 3)]))], .n 1, .r [(3, .callL [.agg ((cCache (TCache.mk (⟨#[]⟩ : ByteArray) (⟨#[]⟩ : ByteArray) 0 2)).map .p), .p (eL 5 cCached dCached ([] : List TCached)), .p (eL 2 cEntry dEntry ([(TEntry.mk ([y_1]) 3)])), .agg ((cValue y_1).map .p), .p (.int .i64 5)] (.tup [.sref 0 46 5 (y_3.1).length, .sref 1 36 2 (y_3.2.1).length, .p (.int .i64 y_3.2.2)]) [(oL true 46 5 cCached dCached y_3.1), (oL true 36 2 cEntry dEntry y_3.2.1)])], .n 1, .r [(3, .callL [.agg ((cCache (TCache.mk (⟨#[]⟩ : ByteArray) (⟨#[]⟩ : ByteArray) 0 2)).map .p), .p (eL 5 cCached dCached y_3.1), .p (eL 2 cEntry dEntry ([] : List TEntry)), .agg ((cValue y_1).map .p), .p (.int .i64 6)] (.tup [.sref 0 46 5 (y_5.1).length, .sref 1 36 2 (y_5.2.1).length, .p (.int .i64 y_5.2.2)]) [(oL true 46 5 cCached dCached y_5.1), (oL true 36 2 cEntry dEntry y_5.2.1)])], .n 1, .r [(3, .callL [.agg ((cCache (TCache.mk (⟨#[]⟩ : ByteArray) (⟨#[]⟩ : ByteArray) 0 2)).map .p), .p (eL 5 cCached dCached y_5.1), .p (eL 2 cEntry dEntry ([] : List TEntry)), .agg ((cValue y_1).map .p), .p (.int .i64 7)] (.tup [.sref 0 46 5 (y_7.1).length, .sref 1 36 2 (y_7.2.1).length, .p (.int .i64 y_7.2.2)]) [(oL true 46 5 cCached dCached y_7.1), (oL true 36 2 cEntry dEntry y_7.2.1)])], .n 1, .r [(2, .dec true), (6, .dec true), (10, .dec true), (15, .dec true), (20, .dec true)]] (by kernel_rfl) (Obs.of (by kernel_rfl) (And.intro (erasureref01_Int.spec e_2) (And.intro (le_one 24 3 cValue dValue y_1) (And.intro (le_one 36 2 cEntry dEntry (TEntry.mk ([y_1]) 3)) (And.intro (And.intro (fls_cons (fle_rfl (.agg ((cCache (TCache.mk (⟨#[]⟩ : ByteArray) (⟨#[]⟩ : ByteArray) 0 2)).map .p))) (fls_cons (fle_nil 5 cCached dCached) (fls_cons (fle_rfl (.p (eL 2 cEntry dEntry ([(TEntry.mk ([y_1]) 3)])))) (fls_cons (fle_rfl (.agg ((cValue y_1).map .p))) (fls_cons (fle_rfl (.p (.int .i64 5))) fls_nil))))) (cache_Lookup.spec e_4)) (And.intro (And.intro (fls_cons (fle_rfl (.agg ((cCache (TCache.mk (⟨#[]⟩ : ByteArray) (⟨#[]⟩ : ByteArray) 0 2)).map .p))) (fls_cons (fle_rfl (.p (eL 5 cCached dCached y_3.1))) (fls_cons (fle_nil 2 cEntry dEntry) (fls_cons (fle_rfl (.agg ((cValue y_1).map .p))) (fls_cons (fle_rfl (.p (.int .i64 6))) fls_nil))))) (cache_Lookup.spec e_6)) (And.intro (And.intro (fls_cons (fle_rfl (.agg ((cCache (TCache.mk (⟨#[]⟩ : ByteArray) (⟨#[]⟩ : ByteArray) 0 2)).map .p))) (fls_cons (fle_rfl (.p (eL 5 cCached dCached y_5.1))) (fls_cons (fle_nil 2 cEntry dEntry) (fls_cons (fle_rfl (.agg ((cValue y_1).map .p))) (fls_cons (fle_rfl (.p (.int .i64 7))) fls_nil))))) (cache_Lookup.spec e_8)) (And.intro g_9 (And.intro g_10 (And.intro g_11 (And.intro g_12 g_13)))))))))))
          · obtain rfl := Option.some.inj h
            exact RunC.out [.n 5, .r [(0, .call (.agg ((cValue y_1).map .p)) [])], .n 1, .r [(1, .obj (oL true 24 3 cValue dValue [y_1])), (3, .obj (oL true 36 2 cEntry dEntry [(TEntry.mk ([y_1]) 3)]))], .n 1, .r [(3, .callL [.agg ((cCache (TCache.mk (⟨#[]⟩ : ByteArray) (⟨#[]⟩ : ByteArray) 0 2)).map .p), .p (eL 5 cCached dCached ([] : List TCached)), .p (eL 2 cEntry dEntry ([(TEntry.mk ([y_1]) 3)])), .agg ((cValue y_1).map .p), .p (.int .i64 5)] (.tup [.sref 0 46 5 (y_3.1).length, .sref 1 36 2 (y_3.2.1).length, .p (.int .i64 y_3.2.2)]) [(oL true 46 5 cCached dCached y_3.1), (oL true 36 2 cEntry dEntry y_3.2.1)])], .n 1, .r [(3, .callL [.agg ((cCache (TCache.mk (⟨#[]⟩ : ByteArray) (⟨#[]⟩ : ByteArray) 0 2)).map .p), .p (eL 5 cCached dCached y_3.1), .p (eL 2 cEntry dEntry ([] : List TEntry)), .agg ((cValue y_1).map .p), .p (.int .i64 6)] (.tup [.sref 0 46 5 (y_5.1).length, .sref 1 36 2 (y_5.2.1).length, .p (.int .i64 y_5.2.2)]) [(oL true 46 5 cCached dCached y_5.1), (oL true 36 2 cEntry dEntry y_5.2.1)])], .n 1, .r [(3, .callL [.agg ((cCache (TCache.mk (⟨#[]⟩ : ByteArray) (⟨#[]⟩ : ByteArray) 0 2)).map .p), .p (eL 5 cCached dCached y_5.1), .p (eL 2 cEntry dEntry ([] : List TEntry)), .agg ((cValue y_1).map .p), .p (.int .i64 7)] (.tup [.sref 0 46 5 (y_7.1).length, .sref 1 36 2 (y_7.2.1).length, .p (.int .i64 y_7.2.2)]) [(oL true 46 5 cCached dCached y_7.1), (oL true 36 2 cEntry dEntry y_7.2.1)])], .n 1, .r [(2, .dec true), (6, .dec true), (10, .dec true), (15, .dec true), (20, .dec false)]] (by kernel_rfl) (Obs.of (by kernel_rfl) (And.intro (erasureref01_Int.spec e_2) (And.intro (le_one 24 3 cValue dValue y_1) (And.intro (le_one 36 2 cEntry dEntry (TEntry.mk ([y_1]) 3)) (And.intro (And.intro (fls_cons (fle_rfl (.agg ((cCache (TCache.mk (⟨#[]⟩ : ByteArray) (⟨#[]⟩ : ByteArray) 0 2)).map .p))) (fls_cons (fle_nil 5 cCached dCached) (fls_cons (fle_rfl (.p (eL 2 cEntry dEntry ([(TEntry.mk ([y_1]) 3)])))) (fls_cons (fle_rfl (.agg ((cValue y_1).map .p))) (fls_cons (fle_rfl (.p (.int .i64 5))) fls_nil))))) (cache_Lookup.spec e_4)) (And.intro (And.intro (fls_cons (fle_rfl (.agg ((cCache (TCache.mk (⟨#[]⟩ : ByteArray) (⟨#[]⟩ : ByteArray) 0 2)).map .p))) (fls_cons (fle_rfl (.p (eL 5 cCached dCached y_3.1))) (fls_cons (fle_nil 2 cEntry dEntry) (fls_cons (fle_rfl (.agg ((cValue y_1).map .p))) (fls_cons (fle_rfl (.p (.int .i64 6))) fls_nil))))) (cache_Lookup.spec e_6)) (And.intro (And.intro (fls_cons (fle_rfl (.agg ((cCache (TCache.mk (⟨#[]⟩ : ByteArray) (⟨#[]⟩ : ByteArray) 0 2)).map .p))) (fls_cons (fle_rfl (.p (eL 5 cCached dCached y_5.1))) (fls_cons (fle_nil 2 cEntry dEntry) (fls_cons (fle_rfl (.agg ((cValue y_1).map .p))) (fls_cons (fle_rfl (.p (.int .i64 7))) fls_nil))))) (cache_Lookup.spec e_8)) (And.intro g_9 (And.intro g_10 (And.intro g_11 (And.intro g_12 (nt g_13))))))))))))
        · obtain rfl := Option.some.inj h
          exact RunC.out [.n 5, .r [(0, .call (.agg ((cValue y_1).map .p)) [])], .n 1, .r [(1, .obj (oL true 24 3 cValue dValue [y_1])), (3, .obj (oL true 36 2 cEntry dEntry [(TEntry.mk ([y_1]) 3)]))], .n 1, .r [(3, .callL [.agg ((cCache (TCache.mk (⟨#[]⟩ : ByteArray) (⟨#[]⟩ : ByteArray) 0 2)).map .p), .p (eL 5 cCached dCached ([] : List TCached)), .p (eL 2 cEntry dEntry ([(TEntry.mk ([y_1]) 3)])), .agg ((cValue y_1).map .p), .p (.int .i64 5)] (.tup [.sref 0 46 5 (y_3.1).length, .sref 1 36 2 (y_3.2.1).length, .p (.int .i64 y_3.2.2)]) [(oL true 46 5 cCached dCached y_3.1), (oL true 36 2 cEntry dEntry y_3.2.1)])], .n 1, .r [(3, .callL [.agg ((cCache (TCache.mk (⟨#[]⟩ : ByteArray) (⟨#[]⟩ : ByteArray) 0 2)).map .p), .p (eL 5 cCached dCached y_3.1), .p (eL 2 cEntry dEntry ([] : List TEntry)), .agg ((cValue y_1).map .p), .p (.int .i64 6)] (.tup [.sref 0 46 5 (y_5.1).length, .sref 1 36 2 (y_5.2.1).length, .p (.int .i64 y_5.2.2)]) [(oL true 46 5 cCached dCached y_5.1), (oL true 36 2 cEntry dEntry y_5.2.1)])], .n 1, .r [(3, .callL [.agg ((cCache (TCache.mk (⟨#[]⟩ : ByteArray) (⟨#[]⟩ : ByteArray) 0 2)).map .p), .p (eL 5 cCached dCached y_5.1), .p (eL 2 cEntry dEntry ([] : List TEntry)), .agg ((cValue y_1).map .p), .p (.int .i64 7)] (.tup [.sref 0 46 5 (y_7.1).length, .sref 1 36 2 (y_7.2.1).length, .p (.int .i64 y_7.2.2)]) [(oL true 46 5 cCached dCached y_7.1), (oL true 36 2 cEntry dEntry y_7.2.1)])], .n 1, .r [(2, .dec true), (6, .dec true), (10, .dec true), (15, .dec false)]] (by kernel_rfl) (Obs.of (by kernel_rfl) (And.intro (erasureref01_Int.spec e_2) (And.intro (le_one 24 3 cValue dValue y_1) (And.intro (le_one 36 2 cEntry dEntry (TEntry.mk ([y_1]) 3)) (And.intro (And.intro (fls_cons (fle_rfl (.agg ((cCache (TCache.mk (⟨#[]⟩ : ByteArray) (⟨#[]⟩ : ByteArray) 0 2)).map .p))) (fls_cons (fle_nil 5 cCached dCached) (fls_cons (fle_rfl (.p (eL 2 cEntry dEntry ([(TEntry.mk ([y_1]) 3)])))) (fls_cons (fle_rfl (.agg ((cValue y_1).map .p))) (fls_cons (fle_rfl (.p (.int .i64 5))) fls_nil))))) (cache_Lookup.spec e_4)) (And.intro (And.intro (fls_cons (fle_rfl (.agg ((cCache (TCache.mk (⟨#[]⟩ : ByteArray) (⟨#[]⟩ : ByteArray) 0 2)).map .p))) (fls_cons (fle_rfl (.p (eL 5 cCached dCached y_3.1))) (fls_cons (fle_nil 2 cEntry dEntry) (fls_cons (fle_rfl (.agg ((cValue y_1).map .p))) (fls_cons (fle_rfl (.p (.int .i64 6))) fls_nil))))) (cache_Lookup.spec e_6)) (And.intro (And.intro (fls_cons (fle_rfl (.agg ((cCache (TCache.mk (⟨#[]⟩ : ByteArray) (⟨#[]⟩ : ByteArray) 0 2)).map .p))) (fls_cons (fle_rfl (.p (eL 5 cCached dCached y_5.1))) (fls_cons (fle_nil 2 cEntry dEntry) (fls_cons (fle_rfl (.agg ((cValue y_1).map .p))) (fls_cons (fle_rfl (.p (.int .i64 7))) fls_nil))))) (cache_Lookup.spec e_8)) (And.intro g_9 (And.intro g_10 (And.intro g_11 (nt g_12)))))))))))
      · obtain rfl := Option.some.inj h
        exact RunC.out [.n 5, .r [(0, .call (.agg ((cValue y_1).map .p)) [])], .n 1, .r [(1, .obj (oL true 24 3 cValue dValue [y_1])), (3, .obj (oL true 36 2 cEntry dEntry [(TEntry.mk ([y_1]) 3)]))], .n 1, .r [(3, .callL [.agg ((cCache (TCache.mk (⟨#[]⟩ : ByteArray) (⟨#[]⟩ : ByteArray) 0 2)).map .p), .p (eL 5 cCached dCached ([] : List TCached)), .p (eL 2 cEntry dEntry ([(TEntry.mk ([y_1]) 3)])), .agg ((cValue y_1).map .p), .p (.int .i64 5)] (.tup [.sref 0 46 5 (y_3.1).length, .sref 1 36 2 (y_3.2.1).length, .p (.int .i64 y_3.2.2)]) [(oL true 46 5 cCached dCached y_3.1), (oL true 36 2 cEntry dEntry y_3.2.1)])], .n 1, .r [(3, .callL [.agg ((cCache (TCache.mk (⟨#[]⟩ : ByteArray) (⟨#[]⟩ : ByteArray) 0 2)).map .p), .p (eL 5 cCached dCached y_3.1), .p (eL 2 cEntry dEntry ([] : List TEntry)), .agg ((cValue y_1).map .p), .p (.int .i64 6)] (.tup [.sref 0 46 5 (y_5.1).length, .sref 1 36 2 (y_5.2.1).length, .p (.int .i64 y_5.2.2)]) [(oL true 46 5 cCached dCached y_5.1), (oL true 36 2 cEntry dEntry y_5.2.1)])], .n 1, .r [(3, .callL [.agg ((cCache (TCache.mk (⟨#[]⟩ : ByteArray) (⟨#[]⟩ : ByteArray) 0 2)).map .p), .p (eL 5 cCached dCached y_5.1), .p (eL 2 cEntry dEntry ([] : List TEntry)), .agg ((cValue y_1).map .p), .p (.int .i64 7)] (.tup [.sref 0 46 5 (y_7.1).length, .sref 1 36 2 (y_7.2.1).length, .p (.int .i64 y_7.2.2)]) [(oL true 46 5 cCached dCached y_7.1), (oL true 36 2 cEntry dEntry y_7.2.1)])], .n 1, .r [(2, .dec true), (6, .dec true), (10, .dec false)]] (by kernel_rfl) (Obs.of (by kernel_rfl) (And.intro (erasureref01_Int.spec e_2) (And.intro (le_one 24 3 cValue dValue y_1) (And.intro (le_one 36 2 cEntry dEntry (TEntry.mk ([y_1]) 3)) (And.intro (And.intro (fls_cons (fle_rfl (.agg ((cCache (TCache.mk (⟨#[]⟩ : ByteArray) (⟨#[]⟩ : ByteArray) 0 2)).map .p))) (fls_cons (fle_nil 5 cCached dCached) (fls_cons (fle_rfl (.p (eL 2 cEntry dEntry ([(TEntry.mk ([y_1]) 3)])))) (fls_cons (fle_rfl (.agg ((cValue y_1).map .p))) (fls_cons (fle_rfl (.p (.int .i64 5))) fls_nil))))) (cache_Lookup.spec e_4)) (And.intro (And.intro (fls_cons (fle_rfl (.agg ((cCache (TCache.mk (⟨#[]⟩ : ByteArray) (⟨#[]⟩ : ByteArray) 0 2)).map .p))) (fls_cons (fle_rfl (.p (eL 5 cCached dCached y_3.1))) (fls_cons (fle_nil 2 cEntry dEntry) (fls_cons (fle_rfl (.agg ((cValue y_1).map .p))) (fls_cons (fle_rfl (.p (.int .i64 6))) fls_nil))))) (cache_Lookup.spec e_6)) (And.intro (And.intro (fls_cons (fle_rfl (.agg ((cCache (TCache.mk (⟨#[]⟩ : ByteArray) (⟨#[]⟩ : ByteArray) 0 2)).map .p))) (fls_cons (fle_rfl (.p (eL 5 cCached dCached y_5.1))) (fls_cons (fle_nil 2 cEntry dEntry) (fls_cons (fle_rfl (.agg ((cValue y_1).map .p))) (fls_cons (fle_rfl (.p (.int .i64 7))) fls_nil))))) (cache_Lookup.spec e_8)) (And.intro g_9 (And.intro g_10 (nt g_11))))))))))
    · obtain rfl := Option.some.inj h
      exact RunC.out [.n 5, .r [(0, .call (.agg ((cValue y_1).map .p)) [])], .n 1, .r [(1, .obj (oL true 24 3 cValue dValue [y_1])), (3, .obj (oL true 36 2 cEntry dEntry [(TEntry.mk ([y_1]) 3)]))], .n 1, .r [(3, .callL [.agg ((cCache (TCache.mk (⟨#[]⟩ : ByteArray) (⟨#[]⟩ : ByteArray) 0 2)).map .p), .p (eL 5 cCached dCached ([] : List TCached)), .p (eL 2 cEntry dEntry ([(TEntry.mk ([y_1]) 3)])), .agg ((cValue y_1).map .p), .p (.int .i64 5)] (.tup [.sref 0 46 5 (y_3.1).length, .sref 1 36 2 (y_3.2.1).length, .p (.int .i64 y_3.2.2)]) [(oL true 46 5 cCached dCached y_3.1), (oL true 36 2 cEntry dEntry y_3.2.1)])], .n 1, .r [(3, .callL [.agg ((cCache (TCache.mk (⟨#[]⟩ : ByteArray) (⟨#[]⟩ : ByteArray) 0 2)).map .p), .p (eL 5 cCached dCached y_3.1), .p (eL 2 cEntry dEntry ([] : List TEntry)), .agg ((cValue y_1).map .p), .p (.int .i64 6)] (.tup [.sref 0 46 5 (y_5.1).length, .sref 1 36 2 (y_5.2.1).length, .p (.int .i64 y_5.2.2)]) [(oL true 46 5 cCached dCached y_5.1), (oL true 36 2 cEntry dEntry y_5.2.1)])], .n 1, .r [(3, .callL [.agg ((cCache (TCache.mk (⟨#[]⟩ : ByteArray) (⟨#[]⟩ : ByteArray) 0 2)).map .p), .p (eL 5 cCached dCached y_5.1), .p (eL 2 cEntry dEntry ([] : List TEntry)), .agg ((cValue y_1).map .p), .p (.int .i64 7)] (.tup [.sref 0 46 5 (y_7.1).length, .sref 1 36 2 (y_7.2.1).length, .p (.int .i64 y_7.2.2)]) [(oL true 46 5 cCached dCached y_7.1), (oL true 36 2 cEntry dEntry y_7.2.1)])], .n 1, .r [(2, .dec true), (6, .dec false)]] (by kernel_rfl) (Obs.of (by kernel_rfl) (And.intro (erasureref01_Int.spec e_2) (And.intro (le_one 24 3 cValue dValue y_1) (And.intro (le_one 36 2 cEntry dEntry (TEntry.mk ([y_1]) 3)) (And.intro (And.intro (fls_cons (fle_rfl (.agg ((cCache (TCache.mk (⟨#[]⟩ : ByteArray) (⟨#[]⟩ : ByteArray) 0 2)).map .p))) (fls_cons (fle_nil 5 cCached dCached) (fls_cons (fle_rfl (.p (eL 2 cEntry dEntry ([(TEntry.mk ([y_1]) 3)])))) (fls_cons (fle_rfl (.agg ((cValue y_1).map .p))) (fls_cons (fle_rfl (.p (.int .i64 5))) fls_nil))))) (cache_Lookup.spec e_4)) (And.intro (And.intro (fls_cons (fle_rfl (.agg ((cCache (TCache.mk (⟨#[]⟩ : ByteArray) (⟨#[]⟩ : ByteArray) 0 2)).map .p))) (fls_cons (fle_rfl (.p (eL 5 cCached dCached y_3.1))) (fls_cons (fle_nil 2 cEntry dEntry) (fls_cons (fle_rfl (.agg ((cValue y_1).map .p))) (fls_cons (fle_rfl (.p (.int .i64 6))) fls_nil))))) (cache_Lookup.spec e_6)) (And.intro (And.intro (fls_cons (fle_rfl (.agg ((cCache (TCache.mk (⟨#[]⟩ : ByteArray) (⟨#[]⟩ : ByteArray) 0 2)).map .p))) (fls_cons (fle_rfl (.p (eL 5 cCached dCached y_5.1))) (fls_cons (fle_nil 2 cEntry dEntry) (fls_cons (fle_rfl (.agg ((cValue y_1).map .p))) (fls_cons (fle_rfl (.p (.int .i64 7))) fls_nil))))) (cache_Lookup.spec e_8)) (And.intro g_9 (nt g_10)))))))))
  · obtain rfl := Option.some.inj h
    exact RunC.out [.n 5, .r [(0, .call (.agg ((cValue y_1).map .p)) [])], .n 1, .r [(1, .obj (oL true 24 3 cValue dValue [y_1])), (3, .obj (oL true 36 2 cEntry dEntry [(TEntry.mk ([y_1]) 3)]))], .n 1, .r [(3, .callL [.agg ((cCache (TCache.mk (⟨#[]⟩ : ByteArray) (⟨#[]⟩ : ByteArray) 0 2)).map .p), .p (eL 5 cCached dCached ([] : List TCached)), .p (eL 2 cEntry dEntry ([(TEntry.mk ([y_1]) 3)])), .agg ((cValue y_1).map .p), .p (.int .i64 5)] (.tup [.sref 0 46 5 (y_3.1).length, .sref 1 36 2 (y_3.2.1).length, .p (.int .i64 y_3.2.2)]) [(oL true 46 5 cCached dCached y_3.1), (oL true 36 2 cEntry dEntry y_3.2.1)])], .n 1, .r [(3, .callL [.agg ((cCache (TCache.mk (⟨#[]⟩ : ByteArray) (⟨#[]⟩ : ByteArray) 0 2)).map .p), .p (eL 5 cCached dCached y_3.1), .p (eL 2 cEntry dEntry ([] : List TEntry)), .agg ((cValue y_1).map .p), .p (.int .i64 6)] (.tup [.sref 0 46 5 (y_5.1).length, .sref 1 36 2 (y_5.2.1).length, .p (.int .i64 y_5.2.2)]) [(oL true 46 5 cCached dCached y_5.1), (oL true 36 2 cEntry dEntry y_5.2.1)])], .n 1, .r [(3, .callL [.agg ((cCache (TCache.mk (⟨#[]⟩ : ByteArray) (⟨#[]⟩ : ByteArray) 0 2)).map .p), .p (eL 5 cCached dCached y_5.1), .p (eL 2 cEntry dEntry ([] : List TEntry)), .agg ((cValue y_1).map .p), .p (.int .i64 7)] (.tup [.sref 0 46 5 (y_7.1).length, .sref 1 36 2 (y_7.2.1).length, .p (.int .i64 y_7.2.2)]) [(oL true 46 5 cCached dCached y_7.1), (oL true 36 2 cEntry dEntry y_7.2.1)])], .n 1, .r [(2, .dec false)]] (by kernel_rfl) (Obs.of (by kernel_rfl) (And.intro (erasureref01_Int.spec e_2) (And.intro (le_one 24 3 cValue dValue y_1) (And.intro (le_one 36 2 cEntry dEntry (TEntry.mk ([y_1]) 3)) (And.intro (And.intro (fls_cons (fle_rfl (.agg ((cCache (TCache.mk (⟨#[]⟩ : ByteArray) (⟨#[]⟩ : ByteArray) 0 2)).map .p))) (fls_cons (fle_nil 5 cCached dCached) (fls_cons (fle_rfl (.p (eL 2 cEntry dEntry ([(TEntry.mk ([y_1]) 3)])))) (fls_cons (fle_rfl (.agg ((cValue y_1).map .p))) (fls_cons (fle_rfl (.p (.int .i64 5))) fls_nil))))) (cache_Lookup.spec e_4)) (And.intro (And.intro (fls_cons (fle_rfl (.agg ((cCache (TCache.mk (⟨#[]⟩ : ByteArray) (⟨#[]⟩ : ByteArray) 0 2)).map .p))) (fls_cons (fle_rfl (.p (eL 5 cCached dCached y_3.1))) (fls_cons (fle_nil 2 cEntry dEntry) (fls_cons (fle_rfl (.agg ((cValue y_1).map .p))) (fls_cons (fle_rfl (.p (.int .i64 6))) fls_nil))))) (cache_Lookup.spec e_6)) (And.intro (And.intro (fls_cons (fle_rfl (.agg ((cCache (TCache.mk (⟨#[]⟩ : ByteArray) (⟨#[]⟩ : ByteArray) 0 2)).map .p))) (fls_cons (fle_rfl (.p (eL 5 cCached dCached y_5.1))) (fls_cons (fle_nil 2 cEntry dEntry) (fls_cons (fle_rfl (.agg ((cValue y_1).map .p))) (fls_cons (fle_rfl (.p (.int .i64 7))) fls_nil))))) (cache_Lookup.spec e_8)) (nt g_9))))))))
theorem erasurelaw30_awake.mono   : ∀ (k k' : Nat)  (r : Bool), k ≤ k' → erasurelaw30_awake k  = some r → erasurelaw30_awake k'  = some r := by
  intro k k'  r hk h
  unfold erasurelaw30_awake at h ⊢
  obtain ⟨y_1, e_2, h⟩ := bind_or h
  refine bnd (erasureref01_Int.mono _ _ _ _ hk e_2) ?_
  obtain ⟨y_3, e_4, h⟩ := bind_or h
  refine bnd (cache_Lookup.mono _ _ _ _ _ _ _ _ hk e_4) ?_
  obtain ⟨y_5, e_6, h⟩ := bind_or h
  refine bnd (cache_Lookup.mono _ _ _ _ _ _ _ _ hk e_6) ?_
  obtain ⟨y_7, e_8, h⟩ := bind_or h
  refine bnd (cache_Lookup.mono _ _ _ _ _ _ _ _ hk e_8) ?_
  rcases ite_or h with ⟨g_9, h⟩ | ⟨g_9, h⟩
  · refine itp g_9 ?_
    rcases ite_or h with ⟨g_10, h⟩ | ⟨g_10, h⟩
    · refine itp g_10 ?_
      rcases ite_or h with ⟨g_11, h⟩ | ⟨g_11, h⟩
      · refine itp g_11 ?_
        rcases ite_or h with ⟨g_12, h⟩ | ⟨g_12, h⟩
        · refine itp g_12 ?_
          rcases ite_or h with ⟨g_13, h⟩ | ⟨g_13, h⟩
          · refine itp g_13 ?_
            exact h
          · refine itn g_13 ?_
            exact h
        · refine itn g_12 ?_
          exact h
      · refine itn g_11 ?_
        exact h
    · refine itn g_10 ?_
      exact h
  · refine itn g_9 ?_
    exact h
theorem erasurelaw30_awake.spec {k : Nat}  {r : Bool} (h : erasurelaw30_awake k  = some r) : Spec Try.prog 12 [] (.p (.bool r)) [] :=
  spec_of mix Try.func12 (body := bodyOf Try.f12) (by kernel_rfl) (by kernel_rfl) (erasurelaw30_awake.run h)
end Go.Proofs.YtjhnpaenhdbhpabV
set_option linter.unusedVariables false
set_option linter.unusedSimpArgs false
set_option maxRecDepth 100000
namespace Go.Proofs.YtjhnpaenhdbhpabV
open Go Go.RowKit
noncomputable def erasureref30_at  (k : Nat) (row0 : (List TValue)) (column1 : Int) : Option TValue := if (decide (column1 < 0)) = true then (some (TValue.mk 0 0 (⟨#[]⟩ : ByteArray))) else (if (decide (column1 ≥ ((row0).length : Int))) = true then (some (TValue.mk 0 0 (⟨#[]⟩ : ByteArray))) else (if 0 ≤ column1 ∧ column1 < ((row0).length : Int) then ((erasureref01_Clean k (row0.getD column1.toNat dValue)).bind fun y_4 => (some y_4)) else none))
noncomputable def erasureref30_at.t : List Item := [.code (bodyOf Try.f40)]
noncomputable def erasureref30_at.s (row0 : (List TValue)) (column1 : Int) : St := ⟨frOf Try.f40.ntmps 0 [(0, .p (eL 3 cValue dValue row0)), (1, .p (.int .i64 column1))], []⟩
theorem erasureref30_at.run   {k : Nat} {row0 : (List TValue)} {column1 : Int} {r : TValue} (h : erasureref30_at k row0 column1 = some r) : RunC Try.prog Try.f40 erasureref30_at.t (erasureref30_at.s row0 column1) (.agg ((cValue r).map .p)) [] := by
  unfold erasureref30_at at h
  rcases ite_or h with ⟨g_1, h⟩ | ⟨g_1, h⟩
  · obtain rfl := Option.some.inj h
    exact RunC.out [.n 4, .r [(2, .dec true)], .n 3] (by kernel_rfl) (Obs.of (by kernel_rfl) g_1)
  · rcases ite_or h with ⟨g_2, h⟩ | ⟨g_2, h⟩
    · obtain rfl := Option.some.inj h
      exact RunC.out [.n 4, .r [(2, .dec false), (7, .dec true)], .n 3] (by kernel_rfl) (Obs.of (by kernel_rfl) (And.intro (nt g_1) g_2))
    · obtain ⟨g_3, h⟩ := ite_some h
      obtain ⟨y_4, e_5, h⟩ := bind_or h
      obtain rfl := Option.some.inj h
      exact RunC.out [.n 4, .r [(2, .dec false), (7, .dec false)], .n 3, .r [(4, .call (.agg ((cValue y_4).map .p)) [])]] (by kernel_rfl) (Obs.of (by kernel_rfl) (And.intro (nt g_1) (And.intro (nt g_2) (And.intro g_3 (erasureref01_Clean.spec e_5)))))
theorem erasureref30_at.mono   : ∀ (k k' : Nat) (row0 : (List TValue)) (column1 : Int) (r : TValue), k ≤ k' → erasureref30_at k row0 column1 = some r → erasureref30_at k' row0 column1 = some r := by
  intro k k' row0 column1 r hk h
  unfold erasureref30_at at h ⊢
  rcases ite_or h with ⟨g_1, h⟩ | ⟨g_1, h⟩
  · refine itp g_1 ?_
    exact h
  · refine itn g_1 ?_
    rcases ite_or h with ⟨g_2, h⟩ | ⟨g_2, h⟩
    · refine itp g_2 ?_
      exact h
    · refine itn g_2 ?_
      obtain ⟨g_3, h⟩ := ite_some h
      refine itp g_3 ?_
      obtain ⟨y_4, e_5, h⟩ := bind_or h
      refine bnd (erasureref01_Clean.mono _ _ _ _ hk e_5) ?_
      exact h
theorem erasureref30_at.spec {k : Nat} {row0 : (List TValue)} {column1 : Int} {r : TValue} (h : erasureref30_at k row0 column1 = some r) : Spec Try.prog 40 [.p (eL 3 cValue dValue row0), .p (.int .i64 column1)] (.agg ((cValue r).map .p)) [] :=
  spec_of mix Try.func40 (body := bodyOf Try.f40) (by kernel_rfl) (by kernel_rfl) (erasureref30_at.run h)
end Go.Proofs.YtjhnpaenhdbhpabV
set_option linter.unusedVariables false
set_option linter.unusedSimpArgs false
set_option maxRecDepth 100000
namespace Go.Proofs.YtjhnpaenhdbhpabV
open Go Go.RowKit
noncomputable def erasureref30_Select.p1  : Nat → (List TEntry) → Int → Int → TValue → (List TEntry) → Option (List TEntry)
  | 0, _, _, _, _, _ => none
  | k + 1, rows0, column1, i8, v5b, out7 => if (decide (i8 < ((rows0).length : Int))) = true then (if 0 ≤ i8 ∧ i8 < ((rows0).length : Int) then ((erasureref30_at k ((rows0.getD i8.toNat dEntry).f0) column1).bind fun y_3 => ((erasureref01_Clean k v5b).bind fun y_5 => (if ((y_3.f0 == y_5.f0) && ((y_3.f1 == y_5.f1) && ((y_3.f2.data.toList == y_5.f2.data.toList) && true))) = true then (if (out7).length + ([(rows0.getD i8.toNat dEntry)]).length ≤ maxLen ∧ ((out7).length + ([(rows0.getD i8.toNat dEntry)]).length) * 32 ≤ 140737488355328 then (erasureref30_Select.p1 k rows0 column1 (IntKind.i64.wrap (i8 + 1)) v5b (out7 ++ ([(rows0.getD i8.toNat dEntry)]))) else none) else (erasureref30_Select.p1 k rows0 column1 (IntKind.i64.wrap (i8 + 1)) v5b out7)))) else none) else (some out7)
noncomputable def erasureref30_Select  (k : Nat) (rows0 : (List TEntry)) (column1 : Int) (v2 : TValue) : Option (List TEntry) := erasureref30_Select.p1 k rows0 column1 0 v2 ([] : List TEntry)
noncomputable def erasureref30_Select.t : List Item := [.code (bodyOf Try.f15)]
noncomputable def erasureref30_Select.s (rows0 : (List TEntry)) (column1 : Int) (v2 : TValue) : St := ⟨frOf Try.f15.ntmps 0 [(0, .p (eL 2 cEntry dEntry rows0)), (1, .p (.int .i64 column1)), (2, .agg ((cValue v2).map .p))], []⟩
noncomputable def erasureref30_Select.p1.t : List Item := nav 9 [] erasureref30_Select.t
noncomputable def erasureref30_Select.p1.s (rows0 : (List TEntry)) (column1 : Int) (i8 : Int) (v5b : TValue) (out7 : (List TEntry)) : St := ⟨frOf Try.f15.ntmps 0 [(0, .p (eL 2 cEntry dEntry rows0)), (1, .p (.int .i64 column1)), (5, .ptr 0 0 0), (7, .sref 1 36 2 (out7).length), (8, .p (.int .i64 i8))], [.box ((cValue v5b).map .p), (oL true 36 2 cEntry dEntry out7)]⟩
theorem erasureref30_Select.p1.run   : ∀ (k : Nat) (rows0 : (List TEntry)) (column1 : Int) (i8 : Int) (v5b : TValue) (out7 : (List TEntry)) (r : (List TEntry)), erasureref30_Select.p1 k rows0 column1 i8 v5b out7 = some r → RunC Try.prog Try.f15 erasureref30_Select.p1.t (erasureref30_Select.p1.s rows0 column1 i8 v5b out7) (.sref 0 36 2 (r).length) [(oL true 36 2 cEntry dEntry (r))] := by
  intro k
  induction k with
  | zero => intro rows0 column1 i8 v5b out7 r h; simp [erasureref30_Select.p1] at h
  | succ k ih =>
    intro rows0 column1 i8 v5b out7 r h
    rw [erasureref30_Select.p1] at h
    rcases ite_or h with ⟨g_1, h⟩ | ⟨g_1, h⟩
    · obtain ⟨g_2, h⟩ := ite_some h
      obtain ⟨y_3, e_4, h⟩ := bind_or h
      obtain ⟨y_5, e_6, h⟩ := bind_or h
      rcases ite_or h with ⟨g_7, h⟩ | ⟨g_7, h⟩
      · obtain ⟨g_8, h⟩ := ite_some h
        exact RunC.go [.n 2, .r [(3, .dec true)], .n 5, .r [(6, .call (.agg ((cValue y_3).map .p)) []), (8, .call (.agg ((cValue y_5).map .p)) []), (9, .dec true)], .n 1, .r [(5, .obj (oL true 36 2 cEntry dEntry [(rows0.getD i8.toNat dEntry)])), (6, .obj (oL true 36 2 cEntry dEntry (out7 ++ ([(rows0.getD i8.toNat dEntry)]))))], .n 3, .k [0, 1, 5, 7, 8]] (by kernel_rfl) (Obs.of (by kernel_rfl) (And.intro g_1 (And.intro g_2 (And.intro (erasureref30_at.spec e_4) (And.intro (erasureref01_Clean.spec e_6) (And.intro g_7 (And.intro g_2 (And.intro (le_one 36 2 cEntry dEntry (rows0.getD i8.toNat dEntry)) (And.intro g_8 (le_app 36 2 cEntry dEntry out7 ([(rows0.getD i8.toNat dEntry)]))))))))))) (ih _ _ _ _ _ r h)
      · exact RunC.go [.n 2, .r [(3, .dec true)], .n 5, .r [(6, .call (.agg ((cValue y_3).map .p)) []), (8, .call (.agg ((cValue y_5).map .p)) []), (9, .dec false)], .n 5, .k [0, 1, 5, 7, 8]] (by kernel_rfl) (Obs.of (by kernel_rfl) (And.intro g_1 (And.intro g_2 (And.intro (erasureref30_at.spec e_4) (And.intro (erasureref01_Clean.spec e_6) (nt g_7)))))) (ih _ _ _ _ _ r h)
    · obtain rfl := Option.some.inj h
      exact RunC.out [.n 2, .r [(3, .dec false)], .n 4] (by kernel_rfl) (Obs.of (by kernel_rfl) (nt g_1))
theorem erasureref30_Select.run   {k : Nat} {rows0 : (List TEntry)} {column1 : Int} {v2 : TValue} {r : (List TEntry)} (h : erasureref30_Select k rows0 column1 v2 = some r) : RunC Try.prog Try.f15 erasureref30_Select.t (erasureref30_Select.s rows0 column1 v2) (.sref 0 36 2 (r).length) [(oL true 36 2 cEntry dEntry (r))] := by
  unfold erasureref30_Select at h
  exact RunC.go [.n 1, .r [(1, .obj (oL true 36 2 cEntry dEntry ([] : List TEntry)))], .n 1, .r [(0, .obj (oL true 36 2 cEntry dEntry ([] : List TEntry)))], .n 5, .k [0, 1, 5, 7, 8]] (by kernel_rfl) (Obs.of (by kernel_rfl) (And.intro (le_nil 36 2 cEntry dEntry) (le_nil 36 2 cEntry dEntry))) (erasureref30_Select.p1.run k _ _ _ _ _ r h)
theorem erasureref30_Select.p1.mono   : ∀ (k k' : Nat) (rows0 : (List TEntry)) (column1 : Int) (i8 : Int) (v5b : TValue) (out7 : (List TEntry)) (r : (List TEntry)), k ≤ k' → erasureref30_Select.p1 k rows0 column1 i8 v5b out7 = some r → erasureref30_Select.p1 k' rows0 column1 i8 v5b out7 = some r := by
  intro k
  induction k with
  | zero => intro k' rows0 column1 i8 v5b out7 r hk h; simp [erasureref30_Select.p1] at h
  | succ k ih =>
    intro k' rows0 column1 i8 v5b out7 r hk h
    obtain ⟨k', rfl⟩ : ∃ m, k' = m + 1 := ⟨k' - 1, by omega⟩
    replace hk := Nat.le_of_succ_le_succ hk
    rw [erasureref30_Select.p1] at h ⊢
    rcases ite_or h with ⟨g_1, h⟩ | ⟨g_1, h⟩
    · refine itp g_1 ?_
      obtain ⟨g_2, h⟩ := ite_some h
      refine itp g_2 ?_
      obtain ⟨y_3, e_4, h⟩ := bind_or h
      refine bnd (erasureref30_at.mono _ _ _ _ _ hk e_4) ?_
      obtain ⟨y_5, e_6, h⟩ := bind_or h
      refine bnd (erasureref01_Clean.mono _ _ _ _ hk e_6) ?_
      rcases ite_or h with ⟨g_7, h⟩ | ⟨g_7, h⟩
      · refine itp g_7 ?_
        obtain ⟨g_8, h⟩ := ite_some h
        refine itp g_8 ?_
        exact ih _ _ _ _ _ _ r hk h
      · refine itn g_7 ?_
        exact ih _ _ _ _ _ _ r hk h
    · refine itn g_1 ?_
      exact h
theorem erasureref30_Select.mono   : ∀ (k k' : Nat) (rows0 : (List TEntry)) (column1 : Int) (v2 : TValue) (r : (List TEntry)), k ≤ k' → erasureref30_Select k rows0 column1 v2 = some r → erasureref30_Select k' rows0 column1 v2 = some r := by
  intro k k' rows0 column1 v2 r hk h
  unfold erasureref30_Select at h ⊢
  exact erasureref30_Select.p1.mono _ _ _ _ _ _ _ r hk h
theorem erasureref30_Select.spec {k : Nat} {rows0 : (List TEntry)} {column1 : Int} {v2 : TValue} {r : (List TEntry)} (h : erasureref30_Select k rows0 column1 v2 = some r) : Spec Try.prog 15 [.p (eL 2 cEntry dEntry rows0), .p (.int .i64 column1), .agg ((cValue v2).map .p)] (.sref 0 36 2 (r).length) [(oL true 36 2 cEntry dEntry (r))] :=
  spec_of mix Try.func15 (body := bodyOf Try.f15) (by kernel_rfl) (by kernel_rfl) (erasureref30_Select.run h)
end Go.Proofs.YtjhnpaenhdbhpabV
set_option linter.unusedVariables false
set_option linter.unusedSimpArgs false
set_option maxRecDepth 100000
namespace Go.Proofs.YtjhnpaenhdbhpabV
open Go Go.RowKit
noncomputable def erasureref22_SameRow.p1  : Nat → (List TValue) → (List TValue) → Int → Option Bool
  | 0, _, _, _ => none
  | k + 1, a0, b1, i5 => if (decide (i5 < ((a0).length : Int))) = true then (if 0 ≤ i5 ∧ i5 < ((a0).length : Int) then (if 0 ≤ i5 ∧ i5 < ((b1).length : Int) then (if (!(((a0.getD i5.toNat dValue).f0 == (b1.getD i5.toNat dValue).f0) && (((a0.getD i5.toNat dValue).f1 == (b1.getD i5.toNat dValue).f1) && ((((a0.getD i5.toNat dValue).f2).data.toList == ((b1.getD i5.toNat dValue).f2).data.toList) && true)))) = true then (some false) else (erasureref22_SameRow.p1 k a0 b1 (IntKind.i64.wrap (i5 + 1)))) else none) else none) else (some true)
noncomputable def erasureref22_SameRow  (k : Nat) (a0 : (List TValue)) (b1 : (List TValue)) : Option Bool := if (((a0).length : Int) != ((b1).length : Int)) = true then (some false) else (erasureref22_SameRow.p1 k a0 b1 0)
noncomputable def erasureref22_SameRow.t : List Item := [.code (bodyOf Try.f54)]
noncomputable def erasureref22_SameRow.s (a0 : (List TValue)) (b1 : (List TValue)) : St := ⟨frOf Try.f54.ntmps 0 [(0, .p (eL 3 cValue dValue a0)), (1, .p (eL 3 cValue dValue b1))], []⟩
noncomputable def erasureref22_SameRow.p1.t : List Item := nav 12 [false] erasureref22_SameRow.t
noncomputable def erasureref22_SameRow.p1.s (a0 : (List TValue)) (b1 : (List TValue)) (i5 : Int) : St := ⟨frOf Try.f54.ntmps 0 [(0, .p (eL 3 cValue dValue a0)), (1, .p (eL 3 cValue dValue b1)), (5, .p (.int .i64 i5))], []⟩
theorem erasureref22_SameRow.p1.run   : ∀ (k : Nat) (a0 : (List TValue)) (b1 : (List TValue)) (i5 : Int) (r : Bool), erasureref22_SameRow.p1 k a0 b1 i5 = some r → RunC Try.prog Try.f54 erasureref22_SameRow.p1.t (erasureref22_SameRow.p1.s a0 b1 i5) (.p (.bool r)) [] := by
  intro k
  induction k with
  | zero => intro a0 b1 i5 r h; simp [erasureref22_SameRow.p1] at h
  | succ k ih =>
    intro a0 b1 i5 r h
    rw [erasureref22_SameRow.p1] at h
    rcases ite_or h with ⟨g_2, h⟩ | ⟨g_2, h⟩
    · obtain ⟨g_3, h⟩ := ite_some h
      obtain ⟨g_4, h⟩ := ite_some h
      rcases ite_or h with ⟨g_5, h⟩ | ⟨g_5, h⟩
      · obtain rfl := Option.some.inj h
        exact RunC.out [.n 2, .r [(3, .dec true)], .n 5, .r [(8, .dec true)], .n 3] (by kernel_rfl) (Obs.of (by kernel_rfl) (And.intro g_2 (And.intro g_3 (And.intro g_4 g_5))))
      · exact RunC.go [.n 2, .r [(3, .dec true)], .n 5, .r [(8, .dec false)], .n 5, .k [0, 1, 5]] (by kernel_rfl) (Obs.of (by kernel_rfl) (And.intro g_2 (And.intro g_3 (And.intro g_4 (nt g_5))))) (ih _ _ _ r h)
    · obtain rfl := Option.some.inj h
      exact RunC.out [.n 2, .r [(3, .dec false)], .n 4] (by kernel_rfl) (Obs.of (by kernel_rfl) (nt g_2))
theorem erasureref22_SameRow.run   {k : Nat} {a0 : (List TValue)} {b1 : (List TValue)} {r : Bool} (h : erasureref22_SameRow k a0 b1 = some r) : RunC Try.prog Try.f54 erasureref22_SameRow.t (erasureref22_SameRow.s a0 b1) (.p (.bool r)) [] := by
  unfold erasureref22_SameRow at h
  rcases ite_or h with ⟨g_1, h⟩ | ⟨g_1, h⟩
  · obtain rfl := Option.some.inj h
    exact RunC.out [.n 4, .r [(4, .dec true)], .n 3] (by kernel_rfl) (Obs.of (by kernel_rfl) g_1)
  · exact RunC.go [.n 4, .r [(4, .dec false)], .n 7, .k [0, 1, 5]] (by kernel_rfl) (Obs.of (by kernel_rfl) (nt g_1)) (erasureref22_SameRow.p1.run k _ _ _ r h)
theorem erasureref22_SameRow.p1.mono   : ∀ (k k' : Nat) (a0 : (List TValue)) (b1 : (List TValue)) (i5 : Int) (r : Bool), k ≤ k' → erasureref22_SameRow.p1 k a0 b1 i5 = some r → erasureref22_SameRow.p1 k' a0 b1 i5 = some r := by
  intro k
  induction k with
  | zero => intro k' a0 b1 i5 r hk h; simp [erasureref22_SameRow.p1] at h
  | succ k ih =>
    intro k' a0 b1 i5 r hk h
    obtain ⟨k', rfl⟩ : ∃ m, k' = m + 1 := ⟨k' - 1, by omega⟩
    replace hk := Nat.le_of_succ_le_succ hk
    rw [erasureref22_SameRow.p1] at h ⊢
    rcases ite_or h with ⟨g_2, h⟩ | ⟨g_2, h⟩
    · refine itp g_2 ?_
      obtain ⟨g_3, h⟩ := ite_some h
      refine itp g_3 ?_
      obtain ⟨g_4, h⟩ := ite_some h
      refine itp g_4 ?_
      rcases ite_or h with ⟨g_5, h⟩ | ⟨g_5, h⟩
      · refine itp g_5 ?_
        exact h
      · refine itn g_5 ?_
        exact ih _ _ _ _ r hk h
    · refine itn g_2 ?_
      exact h
theorem erasureref22_SameRow.mono   : ∀ (k k' : Nat) (a0 : (List TValue)) (b1 : (List TValue)) (r : Bool), k ≤ k' → erasureref22_SameRow k a0 b1 = some r → erasureref22_SameRow k' a0 b1 = some r := by
  intro k k' a0 b1 r hk h
  unfold erasureref22_SameRow at h ⊢
  rcases ite_or h with ⟨g_1, h⟩ | ⟨g_1, h⟩
  · refine itp g_1 ?_
    exact h
  · refine itn g_1 ?_
    exact erasureref22_SameRow.p1.mono _ _ _ _ _ r hk h
theorem erasureref22_SameRow.spec {k : Nat} {a0 : (List TValue)} {b1 : (List TValue)} {r : Bool} (h : erasureref22_SameRow k a0 b1 = some r) : Spec Try.prog 54 [.p (eL 3 cValue dValue a0), .p (eL 3 cValue dValue b1)] (.p (.bool r)) [] :=
  spec_of mix Try.func54 (body := bodyOf Try.f54) (by kernel_rfl) (by kernel_rfl) (erasureref22_SameRow.run h)
end Go.Proofs.YtjhnpaenhdbhpabV
set_option linter.unusedVariables false
set_option linter.unusedSimpArgs false
set_option maxRecDepth 100000
namespace Go.Proofs.YtjhnpaenhdbhpabV
open Go Go.RowKit
noncomputable def erasureref22_SameBag.p1  : Nat → (List TEntry) → (List TEntry) → Int → Option Bool
  | 0, _, _, _ => none
  | k + 1, a0, b1, i5 => if (decide (i5 < ((a0).length : Int))) = true then (if 0 ≤ i5 ∧ i5 < ((a0).length : Int) then (if 0 ≤ i5 ∧ i5 < ((b1).length : Int) then ((erasureref22_SameRow k ((a0.getD i5.toNat dEntry).f0) ((b1.getD i5.toNat dEntry).f0)).bind fun y_5 => (if (!y_5) = true then (some false) else (if ((a0.getD i5.toNat dEntry).f1 != (b1.getD i5.toNat dEntry).f1) = true then (some false) else (erasureref22_SameBag.p1 k a0 b1 (IntKind.i64.wrap (i5 + 1)))))) else none) else none) else (some true)
noncomputable def erasureref22_SameBag  (k : Nat) (a0 : (List TEntry)) (b1 : (List TEntry)) : Option Bool := if (((a0).length : Int) != ((b1).length : Int)) = true then (some false) else (erasureref22_SameBag.p1 k a0 b1 0)
noncomputable def erasureref22_SameBag.t : List Item := [.code (bodyOf Try.f36)]
noncomputable def erasureref22_SameBag.s (a0 : (List TEntry)) (b1 : (List TEntry)) : St := ⟨frOf Try.f36.ntmps 0 [(0, .p (eL 2 cEntry dEntry a0)), (1, .p (eL 2 cEntry dEntry b1))], []⟩
noncomputable def erasureref22_SameBag.p1.t : List Item := nav 12 [false] erasureref22_SameBag.t
noncomputable def erasureref22_SameBag.p1.s (a0 : (List TEntry)) (b1 : (List TEntry)) (i5 : Int) : St := ⟨frOf Try.f36.ntmps 0 [(0, .p (eL 2 cEntry dEntry a0)), (1, .p (eL 2 cEntry dEntry b1)), (5, .p (.int .i64 i5))], []⟩
theorem erasureref22_SameBag.p1.run   : ∀ (k : Nat) (a0 : (List TEntry)) (b1 : (List TEntry)) (i5 : Int) (r : Bool), erasureref22_SameBag.p1 k a0 b1 i5 = some r → RunC Try.prog Try.f36 erasureref22_SameBag.p1.t (erasureref22_SameBag.p1.s a0 b1 i5) (.p (.bool r)) [] := by
  intro k
  induction k with
  | zero => intro a0 b1 i5 r h; simp [erasureref22_SameBag.p1] at h
  | succ k ih =>
    intro a0 b1 i5 r h
    rw [erasureref22_SameBag.p1] at h
    rcases ite_or h with ⟨g_2, h⟩ | ⟨g_2, h⟩
    · obtain ⟨g_3, h⟩ := ite_some h
      obtain ⟨g_4, h⟩ := ite_some h
      obtain ⟨y_5, e_6, h⟩ := bind_or h
      rcases ite_or h with ⟨g_7, h⟩ | ⟨g_7, h⟩
      · obtain rfl := Option.some.inj h
        exact RunC.out [.n 2, .r [(3, .dec true)], .n 5, .r [(10, .call (.p (.bool y_5)) []), (12, .dec true)], .n 3] (by kernel_rfl) (Obs.of (by kernel_rfl) (And.intro g_2 (And.intro g_3 (And.intro g_4 (And.intro (erasureref22_SameRow.spec e_6) g_7)))))
      · rcases ite_or h with ⟨g_8, h⟩ | ⟨g_8, h⟩
        · obtain rfl := Option.some.inj h
          exact RunC.out [.n 2, .r [(3, .dec true)], .n 5, .r [(10, .call (.p (.bool y_5)) []), (12, .dec false), (24, .dec true)], .n 3] (by kernel_rfl) (Obs.of (by kernel_rfl) (And.intro g_2 (And.intro g_3 (And.intro g_4 (And.intro (erasureref22_SameRow.spec e_6) (And.intro (nt g_7) (And.intro g_3 (And.intro g_4 g_8))))))))
        · exact RunC.go [.n 2, .r [(3, .dec true)], .n 5, .r [(10, .call (.p (.bool y_5)) []), (12, .dec false), (24, .dec false)], .n 5, .k [0, 1, 5]] (by kernel_rfl) (Obs.of (by kernel_rfl) (And.intro g_2 (And.intro g_3 (And.intro g_4 (And.intro (erasureref22_SameRow.spec e_6) (And.intro (nt g_7) (And.intro g_3 (And.intro g_4 (nt g_8))))))))) (ih _ _ _ r h)
    · obtain rfl := Option.some.inj h
      exact RunC.out [.n 2, .r [(3, .dec false)], .n 4] (by kernel_rfl) (Obs.of (by kernel_rfl) (nt g_2))
theorem erasureref22_SameBag.run   {k : Nat} {a0 : (List TEntry)} {b1 : (List TEntry)} {r : Bool} (h : erasureref22_SameBag k a0 b1 = some r) : RunC Try.prog Try.f36 erasureref22_SameBag.t (erasureref22_SameBag.s a0 b1) (.p (.bool r)) [] := by
  unfold erasureref22_SameBag at h
  rcases ite_or h with ⟨g_1, h⟩ | ⟨g_1, h⟩
  · obtain rfl := Option.some.inj h
    exact RunC.out [.n 4, .r [(4, .dec true)], .n 3] (by kernel_rfl) (Obs.of (by kernel_rfl) g_1)
  · exact RunC.go [.n 4, .r [(4, .dec false)], .n 7, .k [0, 1, 5]] (by kernel_rfl) (Obs.of (by kernel_rfl) (nt g_1)) (erasureref22_SameBag.p1.run k _ _ _ r h)
theorem erasureref22_SameBag.p1.mono   : ∀ (k k' : Nat) (a0 : (List TEntry)) (b1 : (List TEntry)) (i5 : Int) (r : Bool), k ≤ k' → erasureref22_SameBag.p1 k a0 b1 i5 = some r → erasureref22_SameBag.p1 k' a0 b1 i5 = some r := by
  intro k
  induction k with
  | zero => intro k' a0 b1 i5 r hk h; simp [erasureref22_SameBag.p1] at h
  | succ k ih =>
    intro k' a0 b1 i5 r hk h
    obtain ⟨k', rfl⟩ : ∃ m, k' = m + 1 := ⟨k' - 1, by omega⟩
    replace hk := Nat.le_of_succ_le_succ hk
    rw [erasureref22_SameBag.p1] at h ⊢
    rcases ite_or h with ⟨g_2, h⟩ | ⟨g_2, h⟩
    · refine itp g_2 ?_
      obtain ⟨g_3, h⟩ := ite_some h
      refine itp g_3 ?_
      obtain ⟨g_4, h⟩ := ite_some h
      refine itp g_4 ?_
      obtain ⟨y_5, e_6, h⟩ := bind_or h
      refine bnd (erasureref22_SameRow.mono _ _ _ _ _ hk e_6) ?_
      rcases ite_or h with ⟨g_7, h⟩ | ⟨g_7, h⟩
      · refine itp g_7 ?_
        exact h
      · refine itn g_7 ?_
        rcases ite_or h with ⟨g_8, h⟩ | ⟨g_8, h⟩
        · refine itp g_8 ?_
          exact h
        · refine itn g_8 ?_
          exact ih _ _ _ _ r hk h
    · refine itn g_2 ?_
      exact h
theorem erasureref22_SameBag.mono   : ∀ (k k' : Nat) (a0 : (List TEntry)) (b1 : (List TEntry)) (r : Bool), k ≤ k' → erasureref22_SameBag k a0 b1 = some r → erasureref22_SameBag k' a0 b1 = some r := by
  intro k k' a0 b1 r hk h
  unfold erasureref22_SameBag at h ⊢
  rcases ite_or h with ⟨g_1, h⟩ | ⟨g_1, h⟩
  · refine itp g_1 ?_
    exact h
  · refine itn g_1 ?_
    exact erasureref22_SameBag.p1.mono _ _ _ _ _ r hk h
theorem erasureref22_SameBag.spec {k : Nat} {a0 : (List TEntry)} {b1 : (List TEntry)} {r : Bool} (h : erasureref22_SameBag k a0 b1 = some r) : Spec Try.prog 36 [.p (eL 2 cEntry dEntry a0), .p (eL 2 cEntry dEntry b1)] (.p (.bool r)) [] :=
  spec_of mix Try.func36 (body := bodyOf Try.f36) (by kernel_rfl) (by kernel_rfl) (erasureref22_SameBag.run h)
end Go.Proofs.YtjhnpaenhdbhpabV
set_option linter.unusedVariables false
set_option linter.unusedSimpArgs false
set_option maxRecDepth 100000
namespace Go.Proofs.YtjhnpaenhdbhpabV
open Go Go.RowKit
noncomputable def erasureref26_SameBag  (k : Nat) (a0 : (List TEntry)) (b1 : (List TEntry)) : Option Bool := (erasureref22_SameBag k a0 b1).bind fun y_1 => (some y_1)
noncomputable def erasureref26_SameBag.t : List Item := [.code (bodyOf Try.f13)]
noncomputable def erasureref26_SameBag.s (a0 : (List TEntry)) (b1 : (List TEntry)) : St := ⟨frOf Try.f13.ntmps 0 [(0, .p (eL 2 cEntry dEntry a0)), (1, .p (eL 2 cEntry dEntry b1))], []⟩
theorem erasureref26_SameBag.run   {k : Nat} {a0 : (List TEntry)} {b1 : (List TEntry)} {r : Bool} (h : erasureref26_SameBag k a0 b1 = some r) : RunC Try.prog Try.f13 erasureref26_SameBag.t (erasureref26_SameBag.s a0 b1) (.p (.bool r)) [] := by
  unfold erasureref26_SameBag at h
  obtain ⟨y_1, e_2, h⟩ := bind_or h
  obtain rfl := Option.some.inj h
  exact RunC.out [.n 3, .r [(2, .call (.p (.bool y_1)) [])]] (by kernel_rfl) (Obs.of (by kernel_rfl) (erasureref22_SameBag.spec e_2))
theorem erasureref26_SameBag.mono   : ∀ (k k' : Nat) (a0 : (List TEntry)) (b1 : (List TEntry)) (r : Bool), k ≤ k' → erasureref26_SameBag k a0 b1 = some r → erasureref26_SameBag k' a0 b1 = some r := by
  intro k k' a0 b1 r hk h
  unfold erasureref26_SameBag at h ⊢
  obtain ⟨y_1, e_2, h⟩ := bind_or h
  refine bnd (erasureref22_SameBag.mono _ _ _ _ _ hk e_2) ?_
  exact h
theorem erasureref26_SameBag.spec {k : Nat} {a0 : (List TEntry)} {b1 : (List TEntry)} {r : Bool} (h : erasureref26_SameBag k a0 b1 = some r) : Spec Try.prog 13 [.p (eL 2 cEntry dEntry a0), .p (eL 2 cEntry dEntry b1)] (.p (.bool r)) [] :=
  spec_of mix Try.func13 (body := bodyOf Try.f13) (by kernel_rfl) (by kernel_rfl) (erasureref26_SameBag.run h)
end Go.Proofs.YtjhnpaenhdbhpabV
set_option linter.unusedVariables false
set_option linter.unusedSimpArgs false
set_option maxRecDepth 100000
namespace Go.Proofs.YtjhnpaenhdbhpabV
open Go Go.RowKit
noncomputable def erasurelaw30_CacheSelects  (k : Nat) (rows0 : (List TEntry)) (column1 : Int) (v2 : TValue) : Option Bool := (erasurelaw30_short k rows0).bind fun y_1 => (if (!y_1) = true then ((erasurelaw30_awake k ).bind fun y_4 => (some y_4)) else ((cache_Select k rows0 column1 v2).bind fun y_6 => ((erasureref30_Select k rows0 column1 v2).bind fun y_8 => ((erasureref26_SameBag k y_6 y_8).bind fun y_10 => (if y_10 = true then ((erasurelaw30_awake k ).bind fun y_13 => (some y_13)) else (some false))))))
noncomputable def erasurelaw30_CacheSelects.t : List Item := [.code (bodyOf Try.f3)]
noncomputable def erasurelaw30_CacheSelects.s (rows0 : (List TEntry)) (column1 : Int) (v2 : TValue) : St := ⟨frOf Try.f3.ntmps 0 [(0, .p (eL 2 cEntry dEntry rows0)), (1, .p (.int .i64 column1)), (2, .agg ((cValue v2).map .p))], []⟩
theorem erasurelaw30_CacheSelects.run   {k : Nat} {rows0 : (List TEntry)} {column1 : Int} {v2 : TValue} {r : Bool} (h : erasurelaw30_CacheSelects k rows0 column1 v2 = some r) : RunC Try.prog Try.f3 erasurelaw30_CacheSelects.t (erasurelaw30_CacheSelects.s rows0 column1 v2) (.p (.bool r)) [] := by
  unfold erasurelaw30_CacheSelects at h
  obtain ⟨y_1, e_2, h⟩ := bind_or h
  rcases ite_or h with ⟨g_3, h⟩ | ⟨g_3, h⟩
  · obtain ⟨y_4, e_5, h⟩ := bind_or h
    obtain rfl := Option.some.inj h
    exact RunC.out [.n 4, .r [(1, .call (.p (.bool y_1)) []), (2, .dec true)], .n 2, .r [(0, .call (.p (.bool y_4)) [])]] (by kernel_rfl) (Obs.of (by kernel_rfl) (And.intro (erasurelaw30_short.spec e_2) (And.intro g_3 (erasurelaw30_awake.spec e_5))))
  · obtain ⟨y_6, e_7, h⟩ := bind_or h
    obtain ⟨y_8, e_9, h⟩ := bind_or h
    obtain ⟨y_10, e_11, h⟩ := bind_or h
    rcases ite_or h with ⟨g_12, h⟩ | ⟨g_12, h⟩
    · obtain ⟨y_13, e_14, h⟩ := bind_or h
      obtain rfl := Option.some.inj h
      exact RunC.out [.n 4, .r [(1, .call (.p (.bool y_1)) []), (2, .dec false)], .n 3, .r [(3, .call (.sref 0 36 2 (y_6).length) [(oL true 36 2 cEntry dEntry y_6)]), (7, .call (.sref 0 36 2 (y_8).length) [(oL true 36 2 cEntry dEntry y_8)]), (8, .call (.p (.bool y_10)) []), (9, .dec true), (10, .call (.p (.bool y_13)) [])]] (by kernel_rfl) (Obs.of (by kernel_rfl) (And.intro (erasurelaw30_short.spec e_2) (And.intro (nt g_3) (And.intro (cache_Select.spec e_7) (And.intro (erasureref30_Select.spec e_9) (And.intro (erasureref26_SameBag.spec e_11) (And.intro g_12 (erasurelaw30_awake.spec e_14))))))))
    · obtain rfl := Option.some.inj h
      exact RunC.out [.n 4, .r [(1, .call (.p (.bool y_1)) []), (2, .dec false)], .n 3, .r [(3, .call (.sref 0 36 2 (y_6).length) [(oL true 36 2 cEntry dEntry y_6)]), (7, .call (.sref 0 36 2 (y_8).length) [(oL true 36 2 cEntry dEntry y_8)]), (8, .call (.p (.bool y_10)) []), (9, .dec false)]] (by kernel_rfl) (Obs.of (by kernel_rfl) (And.intro (erasurelaw30_short.spec e_2) (And.intro (nt g_3) (And.intro (cache_Select.spec e_7) (And.intro (erasureref30_Select.spec e_9) (And.intro (erasureref26_SameBag.spec e_11) (nt g_12)))))))
theorem erasurelaw30_CacheSelects.mono   : ∀ (k k' : Nat) (rows0 : (List TEntry)) (column1 : Int) (v2 : TValue) (r : Bool), k ≤ k' → erasurelaw30_CacheSelects k rows0 column1 v2 = some r → erasurelaw30_CacheSelects k' rows0 column1 v2 = some r := by
  intro k k' rows0 column1 v2 r hk h
  unfold erasurelaw30_CacheSelects at h ⊢
  obtain ⟨y_1, e_2, h⟩ := bind_or h
  refine bnd (erasurelaw30_short.mono _ _ _ _ hk e_2) ?_
  rcases ite_or h with ⟨g_3, h⟩ | ⟨g_3, h⟩
  · refine itp g_3 ?_
    obtain ⟨y_4, e_5, h⟩ := bind_or h
    refine bnd (erasurelaw30_awake.mono _ _  _ hk e_5) ?_
    exact h
  · refine itn g_3 ?_
    obtain ⟨y_6, e_7, h⟩ := bind_or h
    refine bnd (cache_Select.mono _ _ _ _ _ _ hk e_7) ?_
    obtain ⟨y_8, e_9, h⟩ := bind_or h
    refine bnd (erasureref30_Select.mono _ _ _ _ _ _ hk e_9) ?_
    obtain ⟨y_10, e_11, h⟩ := bind_or h
    refine bnd (erasureref26_SameBag.mono _ _ _ _ _ hk e_11) ?_
    rcases ite_or h with ⟨g_12, h⟩ | ⟨g_12, h⟩
    · refine itp g_12 ?_
      obtain ⟨y_13, e_14, h⟩ := bind_or h
      refine bnd (erasurelaw30_awake.mono _ _  _ hk e_14) ?_
      exact h
    · refine itn g_12 ?_
      exact h
theorem erasurelaw30_CacheSelects.spec {k : Nat} {rows0 : (List TEntry)} {column1 : Int} {v2 : TValue} {r : Bool} (h : erasurelaw30_CacheSelects k rows0 column1 v2 = some r) : Spec Try.prog 3 [.p (eL 2 cEntry dEntry rows0), .p (.int .i64 column1), .agg ((cValue v2).map .p)] (.p (.bool r)) [] :=
  spec_of mix Try.func3 (body := bodyOf Try.f3) (by kernel_rfl) (by kernel_rfl) (erasurelaw30_CacheSelects.run h)
end Go.Proofs.YtjhnpaenhdbhpabV
set_option linter.unusedVariables false
set_option linter.unusedSimpArgs false
namespace Go.Proofs.YtjhnpaenhdbhpabV
open Go Go.RowKit
def Ev {α : Type} (g : Nat → Option α) (r : α) : Prop := ∃ K, ∀ k, K ≤ k → g k = some r
theorem Ev.now {α : Type} (r : α) : Ev (fun _ => some r) r := ⟨0, fun _ _ => rfl⟩
theorem Ev.any {α : Type} {g : Nat → Option α} {r : α} (h : ∀ k, g k = some r) : Ev g r := ⟨0, fun k _ => h k⟩
theorem Ev.done {α : Type} {a r : α} (h : a = r) : Ev (fun _ => some a) r := by subst h; exact Ev.now _
theorem Ev.bind {α β : Type} {f : Nat → Option α} {g : Nat → α → Option β} {a : α} {r : β} (h : Ev f a) (h' : Ev (fun k => g k a) r) : Ev (fun k => (f k).bind (g k)) r := by
  obtain ⟨K, h⟩ := h; obtain ⟨L, h'⟩ := h'
  exact ⟨max K L, fun k hk => by show (f k).bind (g k) = some r; rw [h k (by omega)]; exact h' k (by omega)⟩
theorem Ev.succ {α : Type} {g : Nat → Option α} {r : α} (h : Ev (fun k => g (k + 1)) r) : Ev g r := by
  obtain ⟨K, h⟩ := h
  exact ⟨K + 1, fun k hk => by obtain ⟨m, rfl⟩ : ∃ m, k = m + 1 := ⟨k - 1, by omega⟩; exact h m (by omega)⟩
theorem Ev.congr {α : Type} {f g : Nat → Option α} {r : α} (h : ∀ k, g k = f k) (k : Ev f r) : Ev g r := by rw [show g = f from funext h]; exact k
theorem Ev.ite_pos {α : Type} {g f : Nat → Option α} {r : α} {c : Prop} [Decidable c] (h : c) (k : Ev g r) : Ev (fun n => if c then g n else f n) r := Ev.congr (fun n => if_pos h) k
theorem Ev.ite_neg {α : Type} {g f : Nat → Option α} {r : α} {c : Prop} [Decidable c] (h : ¬ c) (k : Ev f r) : Ev (fun n => if c then g n else f n) r := Ev.congr (fun n => if_neg h) k
theorem Ev.of {α : Type} {g : Nat → Option α} {r : α} (m : ∀ k k', k ≤ k' → g k = some r → g k' = some r) {k : Nat} (h : g k = some r) : Ev g r := ⟨k, fun k' hk => m k k' hk h⟩
theorem Ev.some {α : Type} {g : Nat → Option α} {r : α} (h : Ev g r) : ∃ k, g k = Option.some r := by obtain ⟨K, h⟩ := h; exact ⟨K, h K (Nat.le_refl _)⟩
theorem Ev.to {α : Type} {g : Nat → Option α} {r s : α} (h : Ev g r) (e : r = s) : Ev g s := by subst e; exact h
theorem bytes_ext {a b : ByteArray} (h : a.data.toList = b.data.toList) : a = b := by
  cases a; cases b; congr 1; exact Array.toList_inj.1 h
theorem bytes_beq (a b : ByteArray) : (a.data.toList == b.data.toList) = decide (a = b) := by
  rw [Bool.eq_iff_iff, beq_iff_eq, decide_eq_true_eq]; exact ⟨bytes_ext, fun h => by rw [h]⟩
theorem loop_down {P : Nat → Prop} (n : Nat) (hend : P n) (hstep : ∀ i, i < n → P (i + 1) → P i) : ∀ i, i ≤ n → P i := by
  intro i hi
  have key : ∀ d i, i + d = n → P i := by
    intro d
    induction d with
    | zero => intro i h; have : i = n := by omega
              rw [this]; exact hend
    | succ d ih => intro i h; exact hstep i (by omega) (ih (i + 1) (by omega))
  exact key (n - i) i (by omega)
theorem wr {n : Int} (h : -9223372036854775808 ≤ n ∧ n ≤ 9223372036854775807) : IntKind.i64.wrap n = n := by rw [IntKind.wrap_i64]; omega
theorem wrn {i n : Nat} (h : i < n) (hn : n ≤ 9223372036854775807) : IntKind.i64.wrap ((i : Int) + 1) = ((i + 1 : Nat) : Int) := by rw [wr (by omega)]; omega
theorem drop_cons {α : Type} (z : α) {l : List α} {i : Nat} (h : i < l.length) : l.drop i = l.getD (i : Int).toNat z :: l.drop (i + 1) := by
  rw [List.drop_eq_getElem_cons h]; simp [h]
theorem getD_mem {α : Type} (z : α) {l : List α} {i : Nat} (h : i < l.length) : l.getD (i : Int).toNat z ∈ l := by simp [h]
end Go.Proofs.YtjhnpaenhdbhpabV
set_option linter.unusedVariables false
set_option linter.unusedSimpArgs false
namespace Go.Proofs.YtjhnpaenhdbhpabV
open Go Go.RowKit
theorem V_ext {x y : TValue} (h0 : x.f0 = y.f0) (h1 : x.f1 = y.f1) (h2 : x.f2 = y.f2) : x = y := by cases x; cases y; simp_all
instance : DecidableEq TValue := fun x y => decidable_of_iff (x.f0 = y.f0 ∧ x.f1 = y.f1 ∧ x.f2 = y.f2) ⟨fun h => V_ext h.1 h.2.1 h.2.2, fun h => by subst h; exact ⟨rfl, rfl, rfl⟩⟩
def okV (x : TValue) : Bool :=
  if x.f0 = 0 then decide (x.f1 = 0) && decide (x.f2 = (⟨#[]⟩ : ByteArray))
  else if x.f0 = 1 then decide (-4294967296 ≤ x.f1 ∧ x.f1 ≤ 4294967296) && decide (x.f2 = (⟨#[]⟩ : ByteArray))
  else if x.f0 = 2 then decide (x.f1 = 0) && decide (x.f2.size ≤ 32)
  else false
def clV (x : TValue) : TValue := if okV x then x else ⟨0, 0, ⟨#[]⟩⟩
theorem beq_empty (a : ByteArray) : (a.data.toList == (#[] : Array UInt8).toList) = decide (a = (⟨#[]⟩ : ByteArray)) := bytes_beq a ⟨#[]⟩
theorem beq_nil (a : ByteArray) : (a.data.toList == ([] : List UInt8)) = decide (a = (⟨#[]⟩ : ByteArray)) := bytes_beq a ⟨#[]⟩
theorem value_Valid_eq (k : Nat) (v : TValue) : value_Valid k v = some (okV v) := by
  unfold value_Valid value_inRange okV
  simp only [beq_empty, beq_nil, beq_iff_eq, decide_eq_true_eq]
  generalize decide (v.f2 = (⟨#[]⟩ : ByteArray)) = q
  by_cases h0 : v.f0 = 0
  · simp only [if_pos h0]
    by_cases h1 : v.f1 = 0 <;> simp [h1]
  · simp only [if_neg h0]
    by_cases h1 : v.f0 = 1
    · simp only [if_pos h1]
      by_cases h2 : v.f1 ≥ -4294967296
      · rw [if_pos h2]; simp only [Option.bind_some, decide_eq_true_eq]
        by_cases h3 : v.f1 ≤ 4294967296
        · rw [if_pos h3]; simp [h3]; omega
        · rw [if_neg h3]; simp [h3]
      · rw [if_neg h2]; simp; omega
    · simp only [if_neg h1]
      by_cases h2 : v.f0 = 2
      · simp only [if_pos h2]
        by_cases h3 : v.f1 = 0
        · simp [h3]; omega
        · simp [h3]
      · simp [h2]
theorem ref01_Valid_eq (k : Nat) (v : TValue) : erasureref01_Valid k v = some (okV v) := by
  rw [← value_Valid_eq k]
  unfold erasureref01_Valid value_Valid value_inRange
  by_cases h0 : (v.f0 == 0) = true
  · simp only [if_pos h0]
  · simp only [if_neg h0]
    by_cases h1 : (v.f0 == 1) = true
    · simp only [if_pos h1]
      by_cases h2 : decide (v.f1 ≥ -4294967296) = true
      · simp only [if_pos h2, Option.bind_some]
      · simp only [if_neg h2, Option.bind_some, Bool.false_eq_true, if_false]
    · simp only [if_neg h1]
theorem value_Clean_eq (k : Nat) (x : TValue) : value_Clean k x = some (clV x) := by
  unfold value_Clean clV value_Clean.p1 value_Clean.p2
  rw [value_Valid_eq, Option.bind_some]
  by_cases h : okV x = true
  · rw [if_pos h, if_pos h]
  · rw [if_neg h, if_neg h]
theorem ref01_Clean_eq (k : Nat) (x : TValue) : erasureref01_Clean k x = some (clV x) := by
  unfold erasureref01_Clean clV erasureref01_Clean.p1 erasureref01_Clean.p2
  rw [ref01_Valid_eq, Option.bind_some]
  by_cases h : okV x = true
  · rw [if_pos h, if_pos h]
  · rw [if_neg h, if_neg h]
theorem eqV_iff (x y : TValue) : ((x.f0 == y.f0) && ((x.f1 == y.f1) && ((x.f2.data.toList == y.f2.data.toList) && true))) = decide (x = y) := by
  rw [bytes_beq, Bool.eq_iff_iff]
  simp only [Bool.and_eq_true, beq_iff_eq, decide_eq_true_eq, and_true]
  exact ⟨fun h => V_ext h.1 h.2.1 h.2.2, fun h => by subst h; exact ⟨rfl, rfl, rfl⟩⟩
theorem dV {l : List TValue} {i : Nat} (h : i < l.length) : l.drop i = l.getD (i : Int).toNat dValue :: l.drop (i + 1) := drop_cons _ h
theorem dE {l : List TEntry} {i : Nat} (h : i < l.length) : l.drop i = l.getD (i : Int).toNat dEntry :: l.drop (i + 1) := drop_cons _ h
end Go.Proofs.YtjhnpaenhdbhpabV
