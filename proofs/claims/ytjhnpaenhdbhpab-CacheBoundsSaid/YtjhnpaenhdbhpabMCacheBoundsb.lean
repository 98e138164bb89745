/- Part of the proof of CacheBounds: printed by programs of this repo out of the translation, and by hand. Each theorem's conditions stand in its statement. -/
import Derived.Orders
import Derived.Below
import Derived.Laws.AppendOwn
import Derived.Laws.OwnMore
import Derived.KernelRfl
import Derived.Test.YtjhnpaenhdbhpabProg
import Derived.Test.YtjhnpaenhdbhpabMCacheBoundsa
set_option linter.unusedVariables false
set_option linter.unusedSimpArgs false
set_option linter.constructorNameAsVariable false
namespace Go.Proofs.YtjhnpaenhdbhpabV
open Go Go.RowKit
def SRel (E : En) (st : St) (a : Act) (w : World) : Prop := (a.defers = [] ∧ ∀ t v, E.fx t v → a.tmps.getD t undef = v) ∧ ∃ c : Cx, c.w = w ∧ c.hp = st.hp ∧ Inv E c ∧ RelVs c st.fr a.tmps.toList
theorem addOb_ok {rs : Rs} {r : FV} {ups : List (Nat × Ob)} {q : Prop} (h : Rs.ob ⟨r, ups, addOb rs.obs q⟩) : rs.ob ∧ q := by
  unfold Rs.ob addOb at *
  cases ho : rs.obs with
  | none => simp only [ho] at h ⊢; exact ⟨trivial, h⟩
  | some p => simp only [ho] at h ⊢; exact h
theorem retell {E : En} {c : Cx} (hi : Inv E c) {g : Nat} {o o' : Ob} (hl : g < c.hp.length → look c.hp g = o) (h : ObLe o o') : Inv E { c with hp := c.hp.set g o' } ∧ Le c { c with hp := c.hp.set g o' } := by
  unfold ObLe at h
  split at h
  case h_2 => exact h.elim
  rename_i own e sz n f own' e' sz' n' f'
  obtain ⟨rfl, rfl, rfl, rfl, hf⟩ := h
  have hle : Le c { c with hp := c.hp.set g (.arr own e sz n f') } := by
    refine ⟨fun _ h => h, fun _ _ => rfl, fun id => ?_⟩
    show OLe (look c.hp id) (look (c.hp.set g _) id) _ _
    rw [look_set]
    split
    · rename_i hc; obtain ⟨rfl, hc⟩ := hc; rw [hl hc]; exact .inr ⟨rfl, _, _, rfl⟩
    · exact OLe.refl _ _
  have hmut : ∀ id, (look (c.hp.set g (.arr own e sz n f')) id).mut = (look c.hp id).mut := by
    intro id
    rw [look_set]
    split
    · rename_i hc; obtain ⟨rfl, hc⟩ := hc; rw [hl hc]; rfl
    · rfl
  refine ⟨⟨hi.chg, hi.f0, hi.f1, hi.lt, fun id => ?_, fun i j b h1 h2 => hi.inj i j b (by rw [← hmut]; exact h1) (by rw [← hmut]; exact h2), fun i b h1 => hi.own i b (by rw [← hmut]; exact h1)⟩, hle⟩
  show RelO _ (c.κ id) (look (c.hp.set g _) id)
  rw [look_set]
  split
  · rename_i hc
    obtain ⟨rfl, hc⟩ := hc
    have ho := hi.objs g
    rw [hl hc] at ho
    obtain ⟨h0, xs, h1, h2, h3, h4⟩ := ho
    exact ⟨h0, xs, h1, fun i hi' j hj => by obtain ⟨y, hy1, hy2⟩ := h2 i hi' j hj; exact ⟨y, hy1, by rw [← hf i hi' j hj]; exact hy2⟩, h3, h4⟩
  · exact RelO.keep hle (hi.objs id) (fun _ _ => rfl) (fun b hb hm => hi.notF hm b hb)
theorem decF_ok {h : Hn} {rs rs' : Rs} (e : decF h rs = some rs') (ho : rs'.ob) : rs.ob ∧ ∀ (E : En) (c c' : Cx) (v : Value), Inv E c' → Le c c' → c'.hp = setUps c.hp rs.ups → RelV c' rs.r v → ∃ c'', c''.w = c'.w ∧ Inv E c'' ∧ Le c c'' ∧ c''.hp = setUps c.hp rs'.ups ∧ RelV c'' rs'.r v := by
  unfold decF at e
  split at e
  · split at e
    case h_2 => cases e
    rename_i b x hx
    simp only [Option.some.injEq] at e
    subst e
    obtain ⟨h1, rfl⟩ := addOb_ok ho
    exact ⟨h1, fun E c c' v g1 g2 g3 g4 => ⟨c', rfl, g1, g2, g3, by rw [hx] at g4; exact g4⟩⟩
  · split at e
    case h_2 => cases e
    rename_i y x hx
    simp only [Option.some.injEq] at e
    subst e
    obtain ⟨h1, h2⟩ := addOb_ok ho
    refine ⟨h1, fun E c c' v g1 g2 g3 g4 => ⟨c', rfl, g1, g2, g3, ?_⟩⟩
    rw [hx] at g4
    simp only [RelV] at g4 ⊢
    exact h2 _ _ _ g4
  · rename_i y
    simp only [Option.some.injEq] at e
    subst e
    obtain ⟨h1, h2⟩ := addOb_ok ho
    exact ⟨h1, fun E c c' v g1 g2 g3 g4 => ⟨c', rfl, g1, g2, g3, h2 _ _ g4⟩⟩
  · split at e
    case h_2 => cases e
    rename_i own el sz n f
    split at e
    case h_2 => cases e
    rename_i g o0 us hus
    have hups : rs.ups = us.reverse ++ [(g, o0)] := by
      have := congrArg List.reverse hus
      simpa using this
    have key : ∀ (E : En) (c c' : Cx), Inv E c' → Le c c' → c'.hp = setUps c.hp rs.ups → ObLe o0 (.arr own el sz n f) → Inv E { c' with hp := c'.hp.set g (.arr own el sz n f) } ∧ Le c' { c' with hp := c'.hp.set g (.arr own el sz n f) } ∧ c'.hp.set g (.arr own el sz n f) = setUps c.hp (us.reverse ++ [(g, .arr own el sz n f)]) := by
      intro E c c' g1 g2 g3 hle
      have e1 : c'.hp = (setUps c.hp us.reverse).set g o0 := by rw [g3, hups, setUps_append]; rfl
      obtain ⟨i1, l1⟩ := retell g1 (g := g) (o := o0) (fun hlt => by rw [e1] at hlt ⊢; exact look_set_same _ (by simpa using hlt)) hle
      refine ⟨i1, l1, ?_⟩
      rw [setUps_append, e1, List.set_set]
      rfl
    split at e
    · rename_i g' e' sz' n0 hx
      split at e
      case isFalse => cases e
      rename_i hgg
      simp only [Option.some.injEq] at e
      subst e
      obtain ⟨h1, h2⟩ := addOb_ok ho
      refine ⟨h1, fun E c c' v g1 g2 g3 g4 => ?_⟩
      obtain ⟨i1, l1, h3⟩ := key E c c' g1 g2 g3 h2
      refine ⟨{ c' with hp := c'.hp.set g (.arr own el sz n f) }, rfl, i1, Le.trans g2 l1, h3, ?_⟩
      rw [hx] at g4
      have g5 := RelV.keep l1 _ _ g4
      subst hgg
      unfold ObLe at h2
      split at h2
      case h_2 => exact h2.elim
      rename_i own1 e1 sz1 n1 f1 own2 e2 sz2 n2 f2 heq
      simp only [Ob.arr.injEq] at heq
      obtain ⟨rfl, rfl, rfl, rfl, rfl⟩ := heq
      obtain ⟨rfl, rfl, rfl, rfl, _⟩ := h2
      simp only [RelV] at g4 g5 ⊢
      by_cases hlt : g' < c'.hp.length
      · have hl : look c'.hp g' = .arr own1 e1 sz1 n1 f1 := by
          have e3 : c'.hp = (setUps c.hp us.reverse).set g' (.arr own1 e1 sz1 n1 f1) := by rw [g3, hups, setUps_append]; rfl
          rw [e3] at hlt ⊢
          exact look_set_same _ (by simpa using hlt)
        have g6 := g4.2
        rw [hl] at g6
        obtain ⟨rfl, rfl, rfl, _⟩ := g6
        exact g5
      · have g6 := g4.2
        have hfree : look c'.hp g' = .free := by simp [look, List.getElem?_eq_none (Nat.le_of_not_lt hlt)]
        rw [hfree] at g6
        exact g6.elim
    · rename_i hx
      simp only [Option.some.injEq] at e
      subst e
      obtain ⟨h1, h2⟩ := addOb_ok ho
      refine ⟨h1, fun E c c' v g1 g2 g3 g4 => ?_⟩
      obtain ⟨i1, l1, h3⟩ := key E c c' g1 g2 g3 h2
      exact ⟨{ c' with hp := c'.hp.set g (.arr own el sz n f) }, rfl, i1, Le.trans g2 l1, h3, by simp [RelV]⟩
    · rename_i x1 x2 x3 hx
      simp only [Option.some.injEq] at e
      subst e
      obtain ⟨h1, h2⟩ := addOb_ok ho
      refine ⟨h1, fun E c c' v g1 g2 g3 g4 => ?_⟩
      obtain ⟨i1, l1, h3⟩ := key E c c' g1 g2 g3 h2
      exact ⟨{ c' with hp := c'.hp.set g (.arr own el sz n f) }, rfl, i1, Le.trans g2 l1, h3, by rw [hx] at g4; exact RelV.keep l1 _ _ g4⟩
    · rename_i k q hx
      simp only [Option.some.injEq] at e
      subst e
      obtain ⟨h1, h2⟩ := addOb_ok ho
      refine ⟨h1, fun E c c' v g1 g2 g3 g4 => ?_⟩
      obtain ⟨i1, l1, h3⟩ := key E c c' g1 g2 g3 h2
      exact ⟨{ c' with hp := c'.hp.set g (.arr own el sz n f) }, rfl, i1, Le.trans g2 l1, h3, by rw [hx] at g4; simpa [RelV, Rep] using g4⟩
    · cases e
  · simp only [Option.some.injEq] at e
    subst e
    exact ⟨ho, fun E c c' v g1 g2 g3 g4 => ⟨c', rfl, g1, g2, g3, g4⟩⟩
theorem getR_ok (rt : List Tmp) (fr : List FV) (t : Tmp) : getR rt fr t = .u ∨ getR rt fr t = fr.getD t .u := by
  unfold getR; split
  · exact .inr rfl
  · exact .inl rfl
theorem guardF_ok {c : Cx} {ops : Array Oper} {get : Tmp → FV} {fr : List FV} {a : Act} {o : Oper} {b : Bool} (h : RelVs c fr a.tmps.toList) (hg : ∀ t, get t = .u ∨ get t = fr.getD t .u) (e : guardF ops get o = some b) : Region.wanted o (yielded ops a.tmps) = b := by
  unfold guardF at e
  unfold Region.wanted
  cases hgd : o.guard with
  | none => simp only [hgd, Option.some.injEq] at e ⊢; exact e
  | some jw =>
    obtain ⟨j, want⟩ := jw
    simp only [hgd] at e ⊢
    cases hj : ops[j]? with
    | none => simp [hj] at e
    | some q =>
      cases hd : q.dst with
      | none => simp [hj, hd] at e
      | some t =>
        simp only [hj, hd] at e
        split at e
        · rename_i x hx
          simp only [Option.some.injEq] at e
          subst e
          rcases hg t with h1 | h1
          · rw [h1] at hx; cases hx
          · rw [hx] at h1
            have hl : t < fr.length := by
              rcases Nat.lt_or_ge t fr.length with h2 | h2
              · exact h2
              · simp [List.getD_eq_getElem?_getD, List.getElem?_eq_none h2] at h1
            obtain ⟨v, h2, h3⟩ := h.get t hl
            have h4 : fr[t] = .p (.bool x) := by
              simp only [List.getD_eq_getElem?_getD, List.getElem?_eq_getElem hl, Option.getD_some] at h1
              exact h1.symm
            rw [h4] at h3
            simp only [RelV, Rep] at h3
            subst h3
            have h5 : a.tmps[t]? = some (.bool x) := by simpa using h2
            simp [yielded, hj, hd, h5]
        · rename_i hx
          simp only [Option.some.injEq] at e
          subst e
          rcases hg t with h1 | h1
          · rw [h1] at hx; cases hx
          · rw [hx] at h1
            have hl : t < fr.length := by
              rcases Nat.lt_or_ge t fr.length with h2 | h2
              · exact h2
              · simp [List.getD_eq_getElem?_getD, List.getElem?_eq_none h2] at h1
            obtain ⟨v, h2, h3⟩ := h.get t hl
            have h4 : fr[t] = .und := by
              simp only [List.getD_eq_getElem?_getD, List.getElem?_eq_getElem hl, Option.getD_some] at h1
              exact h1.symm
            rw [h4] at h3
            simp only [RelV] at h3
            subst h3
            have h5 : a.tmps[t]? = some undef := by simpa using h2
            simp [yielded, hj, hd, h5, undef]
        · cases e
theorem isFree_eq {o : Ob} (h : o.isFree = true) : o = .free := by cases o <;> first | rfl | simp [Ob.isFree] at h
theorem mkPt_ok {P : Program} {E : En} {c : Cx} {ops : Array Oper} {gs : Nat → Nat} {hs : List (Nat × Hn)} {i : Nat} {st : St} {p : Pt} {a : Act} {Q : Exit → Act → World → Prop} {K : Act → World → Prop} (hi : Inv E c) (hhp : c.hp = st.hp) (hfr : RelVs c st.fr a.tmps.toList)
    (hm : mkPt P ops gs hs i st = some p) (hob : ∀ q ∈ p.obs, q) (hK : ∀ a' c', (a'.defers = a.defers ∧ ∀ t, (∀ o, ops[i]? = some o → o.dst ≠ some t) → a'.tmps.getD t undef = a.tmps.getD t undef) → Inv E c' → c'.hp = (apPt p st).hp → RelVs c' (apPt p st).fr a'.tmps.toList → K a' c'.w) : wpOp P ops Q i K a c.w := by
  unfold mkPt at hm
  unfold wpOp
  cases ho : ops[i]? with
  | none => simp [ho] at hm
  | some o =>
    simp only [ho] at hm ⊢
    have hput : ∀ (c' : Cx) (r : FV) (v : Value), RelVs c' st.fr a.tmps.toList → RelV c' r v → RelVs c' (match o.dst with | some d => st.fr.set d r | none => st.fr) (a.put o.dst v).tmps.toList := by
      intro c' r v h1 h2
      cases hd : o.dst with
      | none => exact h1
      | some d => exact relVs_put h1 h2 d
    have hdef : ∀ v, (a.put o.dst v).defers = a.defers ∧ ∀ t, (∀ o', ops[i]? = some o' → o'.dst ≠ some t) → (a.put o.dst v).tmps.getD t undef = a.tmps.getD t undef := by
      intro v
      refine ⟨by cases o.dst <;> rfl, fun t ht => ?_⟩
      have h1 := ht o ho
      cases hd : o.dst with
      | none => rfl
      | some d =>
        rw [hd] at h1
        have hne : d ≠ t := fun e => h1 (by rw [e])
        simp only [Act.put, Array.getD_eq_getD_getElem?, Array.getElem?_setIfInBounds_ne hne]
    cases hgd : guardF ops (getR (rtOf ops o) st.fr) o with
    | none => simp [hgd] at hm
    | some b =>
      have hw := guardF_ok hfr (getR_ok (rtOf ops o) st.fr) hgd
      cases b with
      | false =>
        simp only [hgd, Option.some.injEq] at hm
        subst hm
        rw [hw]
        simp only [Bool.false_eq_true, if_false]
        exact hK _ c (hdef _) hi hhp (hput c .und undef hfr (by simp [RelV]))
      | true =>
        rw [hw]
        simp only [if_true]
        left
        simp only [hgd] at hm
        split at hm
        case isTrue => cases hm
        rename_i hfresh
        split at hm
        case h_1 => cases hm
        rename_i rs hop
        split at hm
        case h_1 => cases hm
        rename_i rs' hdec
        simp only [Option.some.injEq] at hm
        subst hm
        have hob' : rs'.ob := by
          unfold Rs.ob
          cases hq : rs'.obs with
          | none => trivial
          | some q => exact hob q (by simp [hq])
        obtain ⟨hob1, hrel⟩ := decF_ok hdec hob'
        refine op_ok hi (fun x => relV_valG hfr (getR_ok _ _) x) (fun id => ?_) hop (fun hmn => ?_) hob1 (fun v c' h1 h2 h3 h4 => ?_)
        · split
          · right; rw [hhp]
          · left; rfl
        · rw [hmn] at hfresh
          simp only [Bool.true_and, Bool.not_eq_true', Bool.not_eq_false] at hfresh
          simp only [fresh4, Bool.and_eq_true, decide_eq_true_eq] at hfresh
          obtain ⟨⟨⟨⟨f0, f1⟩, f2⟩, f3⟩, f4⟩ := hfresh
          intro j hj
          rw [hhp]
          refine ⟨?_, by omega⟩
          rcases j with _ | _ | _ | _ | j
          · exact isFree_eq f0
          · exact isFree_eq f1
          · exact isFree_eq f2
          · exact isFree_eq f3
          · omega
        · obtain ⟨c'', k1, k2, k3, k4, k5⟩ := hrel E c c' v h1 h2 h3 h4
          have := hK _ c'' (hdef v) k2 (by show c''.hp = setUps st.hp rs'.ups; rw [k4, hhp]) (hput c'' rs'.r v (RelVs.keep k3 _ _ hfr) k5)
          rw [k1] at this
          exact this
def Val (mk : Nat → St → Option Pt) : List (Nat × Pt) → St → St → Prop
  | [], st, st' => st' = st
  | (i, p) :: l, st, st' => mk i st = some p ∧ Val mk l (apPt p st) st'
def ids (l : List (Nat × Ob)) : List Nat := l.map (·.1)
def dj (a b : List Nat) : Bool := a.all fun x => !b.contains x
def dj1 (d : Option Tmp) (b : List Nat) : Bool :=
  match d with
  | some d => !b.contains d
  | none => true
def indep (p q : Pt) : Bool := dj1 p.d q.rt && dj1 p.d q.d.toList && dj1 q.d p.rt && dj (ids p.ups) q.rh && dj (ids p.ups) (ids q.ups) && dj (ids q.ups) p.rh
theorem dj_spec {a b : List Nat} (h : dj a b = true) : ∀ x ∈ a, x ∉ b := fun x hx hb => by
  have := List.all_eq_true.1 h x hx
  simp [hb] at this
theorem dj1_spec {d : Option Tmp} {b : List Nat} (h : dj1 d b = true) : ∀ x, d = some x → x ∉ b := by
  rintro x rfl hb
  simp [dj1, hb] at h
theorem mkPt_congr {P : Program} {ops : Array Oper} {gs : Nat → Nat} {hs : List (Nat × Hn)} {i : Nat} {st st' : St} {p : Pt} (h : mkPt P ops gs hs i st = some p) (hf : ∀ t ∈ p.rt, st'.fr.getD t .u = st.fr.getD t .u) (hh : ∀ id ∈ p.rh, look st'.hp id = look st.hp id) (hl : st'.hp.length = st.hp.length) :
    mkPt P ops gs hs i st' = some p := by
  unfold mkPt at h ⊢
  cases ho : ops[i]? with
  | none => simp [ho] at h
  | some o =>
    simp only [ho] at h ⊢
    have hget : p.rt = rtOf ops o → getR (rtOf ops o) st'.fr = getR (rtOf ops o) st.fr := by
      intro e
      funext t
      unfold getR
      split
      · rename_i hc
        exact hf t (by rw [e]; simpa using hc)
      · rfl
    cases hgd : guardF ops (getR (rtOf ops o) st.fr) o with
    | none => simp [hgd] at h
    | some b =>
      cases b with
      | false =>
        simp only [hgd, Option.some.injEq] at h
        have e : p.rt = rtOf ops o := by rw [← h]
        rw [hget e, hgd]
        simp only [h]
      | true =>
        simp only [hgd] at h
        split at h
        case isTrue => cases h
        rename_i hfresh
        split at h
        case h_1 => cases h
        rename_i rs hop
        split at h
        case h_1 => cases h
        rename_i rs' hdec
        simp only [Option.some.injEq] at h
        have e : p.rt = rtOf ops o := by rw [← h]
        have erh : p.rh = rhOf gs i (hintAt hs i) o (valG (getR (rtOf ops o) st.fr)) := by rw [← h]
        rw [hget e, hgd]
        simp only
        have hfr : (mayNew (valG (getR (rtOf ops o) st.fr)) o.op && !fresh4 st'.hp (gs i)) = (mayNew (valG (getR (rtOf ops o) st.fr)) o.op && !fresh4 st.hp (gs i)) := by
          cases hm : mayNew (valG (getR (rtOf ops o) st.fr)) o.op with
          | false => rfl
          | true =>
            unfold rhOf at erh
            rw [hm] at erh
            have hin : ∀ j, j ∈ [gs i, gs i + 1, gs i + 2, gs i + 3] → look st'.hp j = look st.hp j := fun j hj => hh j (by rw [erh]; simp at hj ⊢; right; right; exact hj)
            unfold fresh4
            rw [hin _ (by simp), hin (gs i + 1) (by simp), hin (gs i + 2) (by simp), hin (gs i + 3) (by simp), hl]
        rw [hfr, if_neg hfresh]
        have hlk : (fun id => if (rhOf gs i (hintAt hs i) o (valG (getR (rtOf ops o) st.fr))).contains id then look st'.hp id else Ob.free)
            = (fun id => if (rhOf gs i (hintAt hs i) o (valG (getR (rtOf ops o) st.fr))).contains id then look st.hp id else Ob.free) := by
          funext id
          split
          · rename_i hc
            exact hh id (by rw [erh]; simpa using hc)
          · rfl
        rw [hlk, hop]
        simp only [hdec, h]
theorem getD_set_ne' {fr : List FV} {d t : Tmp} {r : FV} (h : d ≠ t) : (fr.set d r).getD t .u = fr.getD t .u := by
  rw [List.getD_eq_getElem?_getD, List.getD_eq_getElem?_getD, List.getElem?_set_ne h]
theorem apPt_fr {p : Pt} {st : St} {t : Tmp} (h : ∀ d, p.d = some d → d ≠ t) : (apPt p st).fr.getD t .u = st.fr.getD t .u := by
  unfold apPt
  cases hd : p.d with
  | none => rfl
  | some d => exact getD_set_ne' (h d hd)
theorem look_setUps {id : Nat} : ∀ (ups : List (Nat × Ob)) (hp : List Ob), id ∉ ids ups → look (setUps hp ups) id = look hp id
  | [], hp, _ => rfl
  | u :: us, hp, h => by
    simp only [ids, List.map_cons, List.mem_cons, not_or] at h
    show look (setUps (hp.set u.1 u.2) us) id = _
    rw [look_setUps us _ h.2, look_set_ne _ (Ne.symm h.1)]
theorem set_setUps {i : Nat} {o : Ob} : ∀ (ups : List (Nat × Ob)) (hp : List Ob), i ∉ ids ups → setUps (hp.set i o) ups = (setUps hp ups).set i o
  | [], hp, _ => rfl
  | u :: us, hp, h => by
    simp only [ids, List.map_cons, List.mem_cons, not_or] at h
    show setUps ((hp.set i o).set u.1 u.2) us = _
    rw [List.set_comm _ _ h.1]
    exact set_setUps us _ h.2
theorem setUps_comm : ∀ (a b : List (Nat × Ob)) (hp : List Ob), (∀ x ∈ ids a, x ∉ ids b) → setUps (setUps hp a) b = setUps (setUps hp b) a
  | [], b, hp, _ => rfl
  | u :: us, b, hp, h => by
    simp only [ids, List.map_cons, List.mem_cons, forall_eq_or_imp] at h
    show setUps (setUps (hp.set u.1 u.2) us) b = setUps ((setUps hp b).set u.1 u.2) us
    rw [setUps_comm us b _ h.2, set_setUps b hp h.1]
theorem apPt_comm {p q : Pt} (h : indep p q = true) (st : St) : apPt p (apPt q st) = apPt q (apPt p st) := by
  simp only [indep, Bool.and_eq_true] at h
  obtain ⟨⟨⟨⟨⟨h1, h2⟩, h3⟩, h4⟩, h5⟩, h6⟩ := h
  unfold apPt
  congr 1
  · cases hp : p.d with
    | none => rfl
    | some d =>
      cases hq : q.d with
      | none => rfl
      | some e =>
        have : d ≠ e := fun heq => dj1_spec h2 d hp (by rw [hq]; simp [heq])
        exact List.set_comm _ _ (Ne.symm this)
  · exact (setUps_comm p.ups q.ups st.hp (dj_spec h5)).symm
theorem Val.front {P : Program} {ops : Array Oper} {gs : Nat → Nat} {hs : List (Nat × Hn)} {x : Nat × Pt} {B : List (Nat × Pt)} : ∀ (A : List (Nat × Pt)) (st st' : St), Val (mkPt P ops gs hs) (A ++ x :: B) st st' → (∀ y ∈ A, indep y.2 x.2 = true) → Val (mkPt P ops gs hs) (x :: (A ++ B)) st st'
  | [], st, st', h, _ => h
  | y :: A, st, st', h, hA => by
    obtain ⟨h1, h2⟩ := h
    obtain ⟨h3, h4⟩ := Val.front A _ _ h2 (fun z hz => hA z (by simp [hz]))
    have hin := hA y (by simp)
    have hin' := hin
    simp only [indep, Bool.and_eq_true] at hin'
    obtain ⟨⟨⟨⟨⟨g1, g2⟩, g3⟩, g4⟩, g5⟩, g6⟩ := hin'
    have e1 : mkPt P ops gs hs x.1 st = some x.2 :=
      mkPt_congr h3 (fun t ht => (apPt_fr fun d hd e => dj1_spec g1 d hd (e ▸ ht)).symm)
        (fun id hid => (look_setUps _ _ fun hc => dj_spec g4 id hc hid).symm) (setUps_length _ _).symm
    have e2 : mkPt P ops gs hs y.1 (apPt x.2 st) = some y.2 :=
      mkPt_congr h1 (fun t ht => apPt_fr fun d hd e => dj1_spec g3 d hd (e ▸ ht))
        (fun id hid => look_setUps _ _ fun hc => dj_spec g6 id hc hid) (setUps_length _ _)
    refine ⟨e1, e2, ?_⟩
    rw [apPt_comm hin st]
    exact h4
def preds (o : Oper) : List Nat := (o.after.toList.filter (Region.binds .any)).map (·.on)
def addAnc (tab : List Nat) (m d : Nat) : Nat := m ||| (1 <<< d) ||| tab.getD d 0
def ancOf (tab : List Nat) (o : Oper) : Nat := (preds o).foldl (addAnc tab) 0
def ancs : List Oper → List Nat → List Nat
  | [], tab => tab
  | o :: os, tab => ancs os (tab ++ [ancOf tab o])
theorem testBit_one_shl {d i : Nat} (h : Nat.testBit (1 <<< d) i = true) : i = d := by
  rw [Nat.testBit_shiftLeft] at h
  simp only [Bool.and_eq_true, decide_eq_true_eq] at h
  have h2 : Nat.testBit 1 (i - d) = true := h.2
  rw [Nat.testBit_one_eq_true_iff_self_eq_zero] at h2
  omega
theorem foldl_anc {tab : List Nat} : ∀ (l : List Nat) (m i : Nat), Nat.testBit (l.foldl (addAnc tab) m) i = true → Nat.testBit m i = true ∨ i ∈ l ∨ ∃ d ∈ l, Nat.testBit (tab.getD d 0) i = true
  | [], m, i, h => .inl h
  | d :: l, m, i, h => by
    rcases foldl_anc l (addAnc tab m d) i h with h | h | ⟨q, hq, h⟩
    · unfold addAnc at h
      rw [Nat.testBit_or, Nat.testBit_or] at h
      simp only [Bool.or_eq_true] at h
      rcases h with (h | h) | h
      · exact .inl h
      · exact .inr (.inl (by rw [testBit_one_shl h]; simp))
      · exact .inr (.inr ⟨d, by simp, h⟩)
    · exact .inr (.inl (by simp [h]))
    · exact .inr (.inr ⟨q, by simp [hq], h⟩)
theorem ancs_prefix : ∀ (os : List Oper) (tab : List Nat), ∃ r, ancs os tab = tab ++ r
  | [], tab => ⟨[], by simp [ancs]⟩
  | o :: os, tab => by
    obtain ⟨r, h⟩ := ancs_prefix os (tab ++ [ancOf tab o])
    exact ⟨ancOf tab o :: r, by rw [ancs, h]; simp⟩
theorem ancs_spec : ∀ (os : List Oper) (tab : List Nat) (j : Nat) (o : Oper), os[j]? = some o → ∀ i, Nat.testBit ((ancs os tab).getD (tab.length + j) 0) i = true → i ∈ preds o ∨ ∃ d ∈ preds o, Nat.testBit ((ancs os tab).getD d 0) i = true
  | [], tab, j, o, h => by simp at h
  | q :: os, tab, j, o, h => by
    intro i hi
    cases j with
    | zero =>
      simp only [List.getElem?_cons_zero, Option.some.injEq] at h
      subst h
      obtain ⟨r, hr⟩ := ancs_prefix os (tab ++ [ancOf tab q])
      rw [ancs, hr] at hi ⊢
      simp only [Nat.add_zero, List.append_assoc, List.getD_eq_getElem?_getD, List.getElem?_append_right (Nat.le_refl _), Nat.sub_self, List.singleton_append, List.getElem?_cons_zero, Option.getD_some] at hi
      unfold ancOf at hi
      rcases foldl_anc (preds q) 0 i hi with h | h | ⟨d, hd, h⟩
      · simp at h
      · exact .inl h
      · refine .inr ⟨d, hd, ?_⟩
        have hlt : d < tab.length := by
          rcases Nat.lt_or_ge d tab.length with h' | h'
          · exact h'
          · rw [List.getD_eq_getElem?_getD, List.getElem?_eq_none h'] at h; simp at h
        rw [List.getD_eq_getElem?_getD, List.append_assoc, List.getElem?_append_left hlt, ← List.getD_eq_getElem?_getD]
        exact h
    | succ j =>
      have := ancs_spec os (tab ++ [ancOf tab q]) j o (by simpa using h) i (by
        rw [ancs] at hi
        simpa [Nat.add_assoc, Nat.add_comm 1 j] using hi)
      rw [ancs]
      exact this
def pairsOk (tab : List Nat) : List (Nat × Pt) → Bool
  | [] => true
  | x :: l => l.all (fun y => Nat.testBit (tab.getD y.1 0) x.1 || indep x.2 y.2) && pairsOk tab l
theorem pairsOk_mid {tab : List Nat} {x : Nat × Pt} {B : List (Nat × Pt)} : ∀ (A : List (Nat × Pt)), pairsOk tab (A ++ x :: B) = true → (∀ y ∈ A, ¬ Nat.testBit (tab.getD x.1 0) y.1 = true) → (∀ y ∈ A, indep y.2 x.2 = true) ∧ pairsOk tab (A ++ B) = true
  | [], h, _ => ⟨fun y hy => by simp at hy, by simp only [List.nil_append, pairsOk, Bool.and_eq_true] at h; exact h.2⟩
  | y :: A, h, hA => by
    simp only [List.cons_append, pairsOk, Bool.and_eq_true] at h
    obtain ⟨h1, h2⟩ := pairsOk_mid A h.2 (fun z hz => hA z (by simp [hz]))
    have hx := List.all_eq_true.1 h.1 x (by simp)
    have hn := hA y (by simp)
    refine ⟨fun z hz => ?_, ?_⟩
    · rcases List.mem_cons.1 hz with rfl | hz
      · simp only [Bool.or_eq_true] at hx
        exact hx.resolve_left hn
      · exact h1 z hz
    · simp only [List.cons_append, pairsOk, Bool.and_eq_true]
      refine ⟨List.all_eq_true.2 fun z hz => List.all_eq_true.1 h.1 z ?_, h2⟩
      simp only [List.mem_append] at hz ⊢
      exact hz.imp id (fun h => by simp [h])
theorem any_ok {P : Program} {E : En} {ops : Array Oper} {gs : Nat → Nat} {hs : List (Nat × Hn)} {st' : St} : ∀ (fuel : Nat) (listed : Array Bool) (R : List (Nat × Pt)) (st : St) (a : Act) (w : World), listed.size = ops.size → R.length ≤ fuel →
    (∀ i o, ops[i]? = some o → ∀ d ∈ preds o, d < i) → (∀ i, (∃ p, (i, p) ∈ R) ↔ listed.getD i true = false) → (R.map (·.1)).Nodup → pairsOk (ancs ops.toList []) R = true → (∀ i, listed.getD i false = true → ∀ j, Nat.testBit ((ancs ops.toList []).getD i 0) j = true → listed.getD j false = true) →
    (∀ x ∈ R, ∀ q ∈ x.2.obs, q) → (∀ t v, E.fx t v → ∀ o, o ∈ ops.toList → o.dst ≠ some t) → Val (mkPt P ops gs hs) R st st' → SRel E st a w → wpAny P .any ops (fun e a w => e = .normal ∧ SRel E st' a w) fuel listed a w := by
  intro fuel
  induction fuel with
  | zero =>
    intro listed R st a w hsz hR hfw hin hnd hpo hcl hob hfx hv hrel
    have hR0 : R = [] := List.eq_nil_of_length_eq_zero (by omega)
    subst hR0
    refine ⟨List.eq_nil_iff_forall_not_mem.2 fun i hi => ?_, rfl, by rw [show st' = st from hv]; exact hrel⟩
    obtain ⟨p, hp⟩ := (hin i).2 (mem_ready.1 hi).1
    simp at hp
  | succ fuel ih =>
    intro listed R st a w hsz hR hfw hin hnd hpo hcl hob hfx hv hrel
    have hord : ∀ i ∈ Region.ready .any ops listed, ∀ j, Nat.testBit ((ancs ops.toList []).getD i 0) j = true → listed.getD j false = true := by
      intro i hi j hj
      obtain ⟨_, o, ho, hpre⟩ := mem_ready.1 hi
      have hpl : ∀ d ∈ preds o, listed.getD d false = true := by
        intro d hd
        obtain ⟨e, he, rfl⟩ := List.mem_map.1 hd
        obtain ⟨he1, he2⟩ := List.mem_filter.1 he
        exact hpre e (by simpa using he1) he2
      rcases ancs_spec ops.toList [] i o (by simpa using ho) j (by simpa using hj) with h | ⟨d, hd, h⟩
      · exact hpl j h
      · exact hcl d (hpl d hd) j h
    refine ⟨fun hnone => ?_, fun i hi => ?_⟩
    · cases R with
      | nil => exact ⟨rfl, by rw [show st' = st from hv]; exact hrel⟩
      | cons x R =>
        exfalso
        have hx : listed.getD x.1 true = false := (hin x.1).1 ⟨x.2, by simp⟩
        obtain ⟨i, hi, hmin⟩ : ∃ i, listed.getD i true = false ∧ ∀ j, j < i → listed.getD j true ≠ false := by
          have key : ∀ n, listed.getD n true = false → ∃ i, listed.getD i true = false ∧ ∀ j, j < i → listed.getD j true ≠ false := by
            intro n
            induction n using Nat.strongRecOn with
            | _ n ihn =>
              intro hn
              by_cases h : ∃ j, j < n ∧ listed.getD j true = false
              · obtain ⟨j, hj, hjn⟩ := h
                exact ihn j hj hjn
              · exact ⟨n, hn, fun j hj hjf => h ⟨j, hj, hjf⟩⟩
          exact key x.1 hx
        have hlt : i < listed.size := by
          rcases Nat.lt_or_ge i listed.size with h | h
          · exact h
          · simp [Array.getElem?_eq_none h] at hi
        have hlt' : i < ops.size := by omega
        have hmem : i ∈ Region.ready .any ops listed := by
          refine mem_ready.2 ⟨hi, ops[i], Array.getElem?_eq_getElem hlt', fun e he hb => ?_⟩
          have hd : e.on < i := hfw i ops[i] (Array.getElem?_eq_getElem hlt') e.on (List.mem_map.2 ⟨e, List.mem_filter.2 ⟨by simpa using he, hb⟩, rfl⟩)
          have h1 := hmin e.on hd
          have hle : e.on < listed.size := by omega
          simp [hle] at h1 ⊢
          exact h1
        rw [hnone] at hmem
        simp at hmem
    · have hil := (mem_ready.1 hi).1
      obtain ⟨p, hp⟩ := (hin i).2 hil
      obtain ⟨A, B, rfl⟩ := List.append_of_mem hp
      have hA : ∀ y ∈ A, ¬ Nat.testBit ((ancs ops.toList []).getD i 0) y.1 = true := by
        intro y hy hc
        have h1 := hord i hi y.1 hc
        have h2 := (hin y.1).1 ⟨y.2, by simp [hy]⟩
        have hlt : y.1 < listed.size := by
          rcases Nat.lt_or_ge y.1 listed.size with h | h
          · exact h
          · simp [Array.getElem?_eq_none h] at h1
        simp [Array.getElem?_eq_getElem hlt] at h1 h2
        rw [h1] at h2
        cases h2
      obtain ⟨hindep, hpo'⟩ := pairsOk_mid A hpo hA
      obtain ⟨hm, hv'⟩ := Val.front A st st' hv hindep
      obtain ⟨hd, c, rfl, hhp, hinv, hfr⟩ := hrel
      refine mkPt_ok hinv hhp hfr hm (hob (i, p) (by simp)) fun a' c' h1 h2 h3 h4 => ?_
      refine ih (listed.setIfInBounds i true) (A ++ B) (apPt p st) a' c'.w (by simpa using hsz) (by simp at hR ⊢; omega) hfw (fun j => ?_) ?_ hpo' (fun j hj q hq => ?_) (fun x hx => hob x ?_) hfx hv' ⟨⟨by rw [h1.1]; exact hd.1, fun t v ht => (h1.2 t (fun o ho => hfx t v ht o (by rw [Array.mem_toList_iff]; exact Array.mem_of_getElem? ho))).trans (hd.2 t v ht)⟩, c', rfl, h3, h2, h4⟩
      · have hnd' : i ∉ (A ++ B).map (·.1) := by
          simp only [List.map_append, List.map_cons, List.nodup_append, List.nodup_cons] at hnd
          simp only [List.map_append, List.mem_append, not_or]
          exact ⟨fun h => hnd.2.2 i h i (by simp) rfl, hnd.2.1.1⟩
        constructor
        · rintro ⟨q, hq⟩
          have hji : j ≠ i := fun e => hnd' (by rw [← e]; exact List.mem_map.2 ⟨(j, q), hq, rfl⟩)
          rw [getD_set_ne true (Ne.symm hji)]
          exact (hin j).1 ⟨q, by simp only [List.mem_append, List.mem_cons] at hq ⊢; exact hq.imp id .inr⟩
        · intro hj
          have hji : i ≠ j := by
            rintro rfl
            have hlt : i < listed.size := by
              rcases Nat.lt_or_ge i listed.size with h | h
              · exact h
              · simp [Array.getElem?_eq_none h] at hil
            simp [hlt] at hj
          rw [getD_set_ne true hji] at hj
          obtain ⟨q, hq⟩ := (hin j).2 hj
          refine ⟨q, ?_⟩
          simp only [List.mem_append, List.mem_cons, Prod.mk.injEq] at hq ⊢
          rcases hq with h | ⟨h, _⟩ | h
          · exact .inl h
          · exact absurd h.symm hji
          · exact .inr h
      · simp only [List.map_append, List.map_cons, List.nodup_append, List.nodup_cons] at hnd ⊢
        exact ⟨hnd.1, hnd.2.1.2, fun x hx y hy => hnd.2.2 x hx y (by simp [hy])⟩
      · by_cases e : i = j
        · subst e
          exact getD_set_true (hord i hi q hq)
        · rw [getD_set_ne false e] at hj
          exact getD_set_true (hcl j hj q hq)
      · simp only [List.mem_append, List.mem_cons] at hx ⊢
        exact hx.imp id .inr
end Go.Proofs.YtjhnpaenhdbhpabV
set_option linter.unusedVariables false
set_option linter.unusedSimpArgs false
set_option linter.constructorNameAsVariable false
namespace Go.Proofs.YtjhnpaenhdbhpabV
open Go Go.RowKit
def runR (mk : Nat → St → Option Pt) : List Nat → St → Option (List (Nat × Pt) × St)
  | [], st => some ([], st)
  | i :: l, st => match mk i st with
    | none => none
    | some p => match runR mk l (apPt p st) with
      | none => none
      | some (ps, st') => some ((i, p) :: ps, st')
theorem runR_val {mk : Nat → St → Option Pt} : ∀ (l : List Nat) (st st' : St) (ps : List (Nat × Pt)), runR mk l st = some (ps, st') → Val mk ps st st' ∧ ps.map (·.1) = l
  | [], st, st', ps, h => by
    simp only [runR, Option.some.injEq, Prod.mk.injEq] at h
    obtain ⟨rfl, rfl⟩ := h
    exact ⟨rfl, rfl⟩
  | i :: l, st, st', ps, h => by
    simp only [runR] at h
    split at h
    case h_1 => cases h
    rename_i p hp
    split at h
    case h_1 => cases h
    rename_i ps' st'' hr
    simp only [Option.some.injEq, Prod.mk.injEq] at h
    obtain ⟨rfl, rfl⟩ := h
    obtain ⟨h1, h2⟩ := runR_val l _ _ _ hr
    exact ⟨⟨hp, h1⟩, by simp [h2]⟩
def opNews (o : Oper) : Bool :=
  match o.op with
  | .move (.const (.slice none 0 0)) | .assign (.const (.slice none 0 0)) => true
  | .alloc _ | .box .. | .buildSlice .. => true
  | .call c => match c.callee with
    | .builtin .len => false
    | _ => true
  | _ => false
def gAt (ops : List Oper) (c0 i : Nat) : Nat := c0 + 4 * (ops.take i).countP opNews
def fwd : List Oper → Nat → Bool
  | [], _ => true
  | o :: os, i => (preds o).all (fun d => decide (d < i)) && fwd os (i + 1)
theorem fwd_spec : ∀ (os : List Oper) (i : Nat), fwd os i = true → ∀ j o, os[j]? = some o → ∀ d ∈ preds o, d < i + j
  | [], i, h, j, o, ho => by simp at ho
  | q :: os, i, h, j, o, ho => by
    simp only [fwd, Bool.and_eq_true] at h
    cases j with
    | zero =>
      simp only [List.getElem?_cons_zero, Option.some.injEq] at ho
      subst ho
      intro d hd
      simpa using List.all_eq_true.1 h.1 d hd
    | succ j =>
      intro d hd
      have := fwd_spec os (i + 1) h.2 j o (by simpa using ho) d hd
      omega
def regF (P : Program) (ops : Array Oper) (draw : Bool) (hs : List (Nat × Hn)) (st : St) : Option (St × List Prop) :=
  match runR (mkPt P ops (gAt ops.toList st.hp.length) hs) (List.range ops.size) ⟨st.fr, st.hp ++ List.replicate (4 * ops.toList.countP opNews) .free⟩ with
  | none => none
  | some (ps, st') => if !draw || (fwd ops.toList 0 && pairsOk (ancs ops.toList []) ps) then some (st', ps.flatMap (·.2.obs)) else none
theorem look_pad (hp : List Ob) (n : Nat) (id : Nat) : look (hp ++ List.replicate n .free) id = look hp id := by
  unfold look
  rw [List.getD_eq_getElem?_getD, List.getD_eq_getElem?_getD]
  rcases Nat.lt_or_ge id hp.length with h | h
  · rw [List.getElem?_append_left h]
  · rw [List.getElem?_append_right h, List.getElem?_eq_none h, List.getElem?_replicate]
    split <;> rfl
theorem Inv.alike {E : En} {c : Cx} {hp : List Ob} {w' : World} (hi : Inv E c) (h : ∀ id, look hp id = look c.hp id) (hw : w'.heap = c.w.heap) (ht : w'.tape = c.w.tape) (ho : w'.os = c.w.os) (hu : w'.output = c.w.output) : Inv E ⟨c.F, w', c.κ, hp⟩ ∧ Le c ⟨c.F, w', c.κ, hp⟩ := by
  have hle : Le c ⟨c.F, w', c.κ, hp⟩ := ⟨fun _ h => h, fun b _ => by show w'.heap[b]? = _; rw [hw], fun id => by show OLe _ (look hp id) _ _; rw [h]; exact OLe.refl _ _⟩
  refine ⟨⟨⟨ho.trans hi.chg.os, ht.trans hi.chg.tape, hu.trans hi.chg.output, by show _ ≤ w'.heap.size; rw [hw]; exact hi.chg.size, fun b hb hM => by show w'.heap[b]? = _; rw [hw]; exact hi.chg.block b hb hM⟩, hi.f0, hi.f1, fun b hb => by show b < w'.heap.size; rw [hw]; exact hi.lt b hb, fun id => ?_, fun i j b h1 h2 h3 h4 => ?_, fun i b h1 h2 => ?_⟩, hle⟩
  · show RelO _ (c.κ id) (look hp id)
    rw [h]
    exact RelO.keep hle (hi.objs id) (fun b _ => by show w'.heap[b]? = _; rw [hw]) (fun b hb hm => hi.notF hm b hb)
  · have h1' : (look hp i).mut = true := h1
    have h2' : (look hp j).mut = true := h2
    rw [h] at h1' h2'
    exact hi.inj i j b h1' h2' h3 h4
  · have h1' : (look hp i).mut = true := h1
    rw [h] at h1'
    exact hi.own i b h1' h2
theorem SRel.alike {E : En} {st : St} {hp : List Ob} {a : Act} {w w' : World} (hr : SRel E st a w) (h : ∀ id, look hp id = look st.hp id) (hw : w'.heap = w.heap) (ht : w'.tape = w.tape) (ho : w'.os = w.os) (hu : w'.output = w.output) : SRel E ⟨st.fr, hp⟩ a w' := by
  obtain ⟨hd, c, rfl, hhp, hi, hf⟩ := hr
  obtain ⟨i1, l1⟩ := hi.alike (hp := hp) (w' := w') (fun id => by rw [hhp]; exact h id) hw ht ho hu
  exact ⟨hd, ⟨c.F, w', c.κ, hp⟩, rfl, rfl, i1, RelVs.keep l1 _ _ hf⟩
theorem wpOps_ok {P : Program} {E : En} {ops : Array Oper} {gs : Nat → Nat} {hs : List (Nat × Hn)} {st' : St} : ∀ (R : List (Nat × Pt)) (st : St) (a : Act) (w : World), (∀ x ∈ R, ∀ q ∈ x.2.obs, q) → (∀ t v, E.fx t v → ∀ o, o ∈ ops.toList → o.dst ≠ some t) → Val (mkPt P ops gs hs) R st st' → SRel E st a w →
    wpOps P ops (fun e a w => e = .normal ∧ SRel E st' a w) (R.map (·.1)) a w
  | [], st, a, w, _, _, hv, hr => ⟨rfl, by rw [show st' = st from hv]; exact hr⟩
  | (i, p) :: R, st, a, w, hob, hfx, hv, hr => by
    obtain ⟨hm, hv'⟩ := hv
    obtain ⟨hd, c, rfl, hhp, hi, hf⟩ := hr
    rw [List.map_cons, wpOps_cons]
    refine mkPt_ok hi hhp hf hm (hob (i, p) (by simp)) fun a' c' h1 h2 h3 h4 => ?_
    exact wpOps_ok R _ a' c'.w (fun x hx => hob x (by simp [hx])) hfx hv' ⟨⟨by rw [h1.1]; exact hd.1, fun t v ht => (h1.2 t (fun o ho => hfx t v ht o (by rw [Array.mem_toList_iff]; exact Array.mem_of_getElem? ho))).trans (hd.2 t v ht)⟩, c', rfl, h3, h2, h4⟩
theorem regF_ok {P : Program} (hmix : P.follows .mixedOrders = true) {E : En} {id : Nat} {ops : Array Oper} {draw : Bool} {hs : List (Nat × Hn)} {st st' : St} {obs : List Prop} (h : regF P ops draw hs st = some (st', obs)) (hob : ∀ q ∈ obs, q) (hfx : ∀ t v, E.fx t v → ∀ o, o ∈ ops.toList → o.dst ≠ some t) {a : Act} {w : World} (hr : SRel E st a w) :
    (Code.region id ops draw).wp P (fun e a w => e = .normal ∧ SRel E st' a w) a w := by
  unfold regF at h
  split at h
  case h_1 => cases h
  rename_i ps st1 hrun
  split at h
  case isFalse => cases h
  rename_i hcond
  simp only [Option.some.injEq, Prod.mk.injEq] at h
  obtain ⟨rfl, rfl⟩ := h
  obtain ⟨hv, hmap⟩ := runR_val _ _ _ _ hrun
  have hob' : ∀ x ∈ ps, ∀ q ∈ x.2.obs, q := fun x hx q hq => hob q (List.mem_flatMap.2 ⟨x, hx, hq⟩)
  cases draw with
  | false =>
    refine wp_region ?_
    have := wpOps_ok ps _ a w hob' hfx hv (hr.alike (fun id => look_pad _ _ id) rfl rfl rfl rfl)
    rw [hmap] at this
    exact this
  | true =>
    simp only [Bool.not_true, Bool.false_or, Bool.and_eq_true] at hcond
    refine wp_region_any hmix ?_
    refine any_ok ops.size _ ps _ a _ (by simp) (by have := congrArg List.length hmap; simp at this; omega) (fun i o ho => by have := fwd_spec ops.toList 0 hcond.1 i o (by simpa using ho); simpa using this) (fun i => ?_) ?_ hcond.2 (fun i hi => ?_) hob' hfx hv (hr.alike (fun id => look_pad _ _ id) rfl rfl rfl rfl)
    · have hmem : (∃ p, (i, p) ∈ ps) ↔ i < ops.size := by
        rw [← List.mem_range, ← hmap, List.mem_map]
        exact ⟨fun ⟨p, hp⟩ => ⟨(i, p), hp, rfl⟩, fun ⟨⟨j, p⟩, hp, e⟩ => ⟨p, by simp only at e; rw [← e]; exact hp⟩⟩
      rw [hmem]
      rcases Nat.lt_or_ge i ops.size with h | h
      · simp [h]
      · simp [Nat.not_lt.2 h]
    · rw [hmap]; exact List.nodup_range
    · exfalso
      rw [Array.getD_eq_getD_getElem?, Array.getElem?_replicate] at hi
      split at hi <;> simp at hi
def cdst (t : Tmp) : Code → Bool
  | .region _ ops _ => ops.toList.all fun o => o.dst != some t
  | .seq x y => cdst t x && cdst t y
  | .cond _ x y => cdst t x && cdst t y
  | .block _ c => cdst t c
  | .loop c => cdst t c
  | _ => true
def idst (t : Tmp) : Item → Bool
  | .code c => cdst t c
  | .inLoop c => cdst t c
  | _ => true
def tdst (t : Tmp) (l : List Item) : Bool := l.all (idst t)
theorem exitTo_dst {t : Tmp} {id : Nat} : ∀ (k k' : List Item), exitTo id k = some k' → tdst t k = true → tdst t k' = true
  | [], k', h, _ => by simp [exitTo] at h
  | x :: k, k', h, hd => by
    simp only [tdst, List.all_cons, Bool.and_eq_true] at hd
    cases x with
    | inBlock id' =>
      simp only [exitTo] at h
      split at h
      · simp only [Option.some.injEq] at h; subst h; exact hd.2
      · exact exitTo_dst k k' h hd.2
    | _ => exact exitTo_dst k k' (by simpa only [exitTo] using h) hd.2
def stepF (P : Program) (hs : List (Nat × Hn)) (todo : List Item) (st : St) : Option (List Item × St × List Prop) :=
  match todo with
  | .inBlock _ :: k => some (k, st, [])
  | .inLoop c :: k => some (.code c :: .inLoop c :: k, st, [])
  | .code c :: k => match c with
    | .skip => some (k, st, [])
    | .label _ => some (k, st, [])
    | .seq x y => some (.code x :: .code y :: k, st, [])
    | .cond c x y => match valG (fun t => st.fr.getD t .u) c with
      | .p (.bool true) => some (.code x :: k, st, [])
      | .p (.bool false) => some (.code y :: k, st, [])
      | _ => none
    | .block id c => some (.code c :: .inBlock id :: k, st, [])
    | .loop c => some (.code c :: .inLoop c :: k, st, [])
    | .exit id => match exitTo id k with
      | some k' => some (k', st, [])
      | none => none
    | .region _ ops draw => match regF P ops draw hs st with
      | some (st', obs) => some (k, st', obs)
      | none => none
    | _ => none
  | _ => none
theorem stepF_ok {P : Program} (hmix : P.follows .mixedOrders = true) {E : En} {hs : List (Nat × Hn)} {todo todo' : List Item} {st st' : St} {obs : List Prop} (h : stepF P hs todo st = some (todo', st', obs)) (hob : ∀ q ∈ obs, q) (hfx : ∀ t v, E.fx t v → tdst t todo = true) {a : Act} {w : World} (hr : SRel E st a w) (b : Frame) (cs : List Frame) :
    ∃ a' w', SRel E st' a' w' ∧ Steps P (lone (b.at a todo) cs w) (lone (b.at a' todo') cs w') := by
  unfold stepF at h
  split at h
  · simp only [Option.some.injEq, Prod.mk.injEq] at h
    obtain ⟨rfl, rfl, _⟩ := h
    exact ⟨a, w, hr, .one step_inBlock⟩
  · simp only [Option.some.injEq, Prod.mk.injEq] at h
    obtain ⟨rfl, rfl, _⟩ := h
    exact ⟨a, w, hr, .one step_inLoop⟩
  · rename_i c k
    split at h
    · simp only [Option.some.injEq, Prod.mk.injEq] at h
      obtain ⟨rfl, rfl, _⟩ := h
      exact ⟨a, w, hr, .one step_skip⟩
    · simp only [Option.some.injEq, Prod.mk.injEq] at h
      obtain ⟨rfl, rfl, _⟩ := h
      exact ⟨a, w, hr, .one step_label⟩
    · simp only [Option.some.injEq, Prod.mk.injEq] at h
      obtain ⟨rfl, rfl, _⟩ := h
      exact ⟨a, w, hr, .one step_seq⟩
    · rename_i cnd x y
      have hv : ∀ b, valG (fun t => st.fr.getD t .u) cnd = .p (.bool b) → a.eval cnd = .bool b := by
        intro b hb
        obtain ⟨_, c, rfl, _, hi, hf⟩ := hr
        have := relV_valG (get := fun t => st.fr.getD t .u) hf (fun t => .inr rfl) cnd
        rw [hb] at this
        simpa [RelV, Rep] using this
      split at h
      · rename_i hc
        simp only [Option.some.injEq, Prod.mk.injEq] at h
        obtain ⟨rfl, rfl, _⟩ := h
        exact ⟨a, w, hr, .one (step_cond (t := true) (hv _ hc))⟩
      · rename_i hc
        simp only [Option.some.injEq, Prod.mk.injEq] at h
        obtain ⟨rfl, rfl, _⟩ := h
        exact ⟨a, w, hr, .one (step_cond (t := false) (hv _ hc))⟩
      · cases h
    · simp only [Option.some.injEq, Prod.mk.injEq] at h
      obtain ⟨rfl, rfl, _⟩ := h
      exact ⟨a, w, hr, .one step_block⟩
    · simp only [Option.some.injEq, Prod.mk.injEq] at h
      obtain ⟨rfl, rfl, _⟩ := h
      exact ⟨a, w, hr, .one step_loop⟩
    · split at h
      · rename_i k' hk
        simp only [Option.some.injEq, Prod.mk.injEq] at h
        obtain ⟨rfl, rfl, _⟩ := h
        exact ⟨a, w, hr, .one (step_exit hk)⟩
      · cases h
    · rename_i id ops draw
      split at h
      · rename_i st1 obs1 hreg
        simp only [Option.some.injEq, Prod.mk.injEq] at h
        obtain ⟨rfl, rfl, rfl⟩ := h
        obtain ⟨e, a', w', ⟨rfl, hq⟩, harr⟩ := regF_ok hmix (id := id) hreg hob (fun t v ht o ho => by
          have := hfx t v ht
          simp only [tdst, List.all_cons, idst, cdst, Bool.and_eq_true] at this
          have h2 := List.all_eq_true.1 this.1 o ho
          simpa using h2) hr b k cs
        exact ⟨a', w', hq, harr⟩
      · cases h
    · cases h
  · cases h
theorem stepF_dst {P : Program} {t : Tmp} {hs : List (Nat × Hn)} {todo todo' : List Item} {st st' : St} {obs : List Prop} (h : stepF P hs todo st = some (todo', st', obs)) (hd : tdst t todo = true) : tdst t todo' = true := by
  unfold stepF at h
  split at h
  · simp only [Option.some.injEq, Prod.mk.injEq] at h
    obtain ⟨rfl, rfl, _⟩ := h
    simp only [tdst, List.all_cons, Bool.and_eq_true] at hd; exact hd.2
  · simp only [Option.some.injEq, Prod.mk.injEq] at h
    obtain ⟨rfl, rfl, _⟩ := h
    simp only [tdst, List.all_cons, Bool.and_eq_true, idst] at hd ⊢; exact ⟨hd.1, hd.1, hd.2⟩
  · rename_i c k
    split at h <;> simp only [tdst, List.all_cons, Bool.and_eq_true, idst, cdst] at hd
    · simp only [Option.some.injEq, Prod.mk.injEq] at h
      obtain ⟨rfl, rfl, _⟩ := h
      exact hd.2
    · simp only [Option.some.injEq, Prod.mk.injEq] at h
      obtain ⟨rfl, rfl, _⟩ := h
      exact hd.2
    · simp only [Option.some.injEq, Prod.mk.injEq] at h
      obtain ⟨rfl, rfl, _⟩ := h
      simp only [tdst, List.all_cons, Bool.and_eq_true, idst]; exact ⟨hd.1.1, hd.1.2, hd.2⟩
    · split at h
      · simp only [Option.some.injEq, Prod.mk.injEq] at h
        obtain ⟨rfl, rfl, _⟩ := h
        simp only [tdst, List.all_cons, Bool.and_eq_true, idst]; exact ⟨hd.1.1, hd.2⟩
      · simp only [Option.some.injEq, Prod.mk.injEq] at h
        obtain ⟨rfl, rfl, _⟩ := h
        simp only [tdst, List.all_cons, Bool.and_eq_true, idst]; exact ⟨hd.1.2, hd.2⟩
      · cases h
    · simp only [Option.some.injEq, Prod.mk.injEq] at h
      obtain ⟨rfl, rfl, _⟩ := h
      simp only [tdst, List.all_cons, Bool.and_eq_true, idst]; exact ⟨hd.1, trivial, hd.2⟩
    · simp only [Option.some.injEq, Prod.mk.injEq] at h
      obtain ⟨rfl, rfl, _⟩ := h
      simp only [tdst, List.all_cons, Bool.and_eq_true, idst]; exact ⟨hd.1, hd.1, hd.2⟩
    · split at h
      · rename_i k' hk
        simp only [Option.some.injEq, Prod.mk.injEq] at h
        obtain ⟨rfl, rfl, _⟩ := h
        exact exitTo_dst _ _ hk hd.2
      · cases h
    · split at h
      · simp only [Option.some.injEq, Prod.mk.injEq] at h
        obtain ⟨rfl, rfl, _⟩ := h
        exact hd.2
      · cases h
    · cases h
  · cases h
def isEnd : List Item → Bool
  | [] => true
  | .code .ret :: _ => true
  | _ => false
def res1 (P : Program) (st : St) : ResultVar → Option FV
  | .tmp t => some (st.fr.getD t .u)
  | .cell a t => match loadF P t (st.fr.getD a .u) (look st.hp) with
    | some rs => some rs.r
    | none => none
def resL (P : Program) (st : St) : List ResultVar → Option (List FV)
  | [] => some []
  | r :: rs => match res1 P st r with
    | some x => match resL P st rs with
      | some xs => some (x :: xs)
      | none => none
    | none => none
def resF (P : Program) (fn : Func) (st : St) : Option FV :=
  match resL P st fn.results.toList with
  | some [x] => some x
  | some xs => some (.tup xs)
  | none => none
theorem resL_ok {P : Program} {E : En} {c : Cx} {st : St} {a : Act} (hi : Inv E c) (hhp : c.hp = st.hp) (hf : RelVs c st.fr a.tmps.toList) (g : ResultVar → Sem Value) (hg1 : ∀ t, g (.tmp t) = pure (a.tmps.getD t undef)) (hg2 : ∀ x t, g (.cell x t) = (do loadVar t (← asAddr (a.tmps.getD x undef)))) :
    ∀ (l : List ResultVar) (xs : List FV), resL P st l = some xs → ∃ vs, (l.mapM g).run P c.w = .ok vs c.w ∧ RelVs c xs vs
  | [], xs, h => by
    simp only [resL, Option.some.injEq] at h
    subst h
    exact ⟨[], rfl, by simp [RelVs]⟩
  | r :: rs, xs, h => by
    simp only [resL] at h
    split at h
    case h_2 => cases h
    rename_i x hx
    split at h
    case h_2 => cases h
    rename_i xs' hxs
    simp only [Option.some.injEq] at h
    subst h
    obtain ⟨vs, h1, h2⟩ := resL_ok hi hhp hf g hg1 hg2 rs xs' hxs
    have one : ∃ v, (g r).run P c.w = .ok v c.w ∧ RelV c x v := by
      cases r with
      | tmp t =>
        simp only [res1, Option.some.injEq] at hx
        subst hx
        exact ⟨_, by rw [hg1]; rfl, relV_val hf (.tmp t)⟩
      | cell y t =>
        simp only [res1] at hx
        split at hx
        case h_2 => cases hx
        rename_i rs' hl
        simp only [Option.some.injEq] at hx
        subst hx
        obtain ⟨ad, u, h3, h4, h5, _⟩ := load_ok (P := P) (lk := look st.hp) hi (fun id => .inr (by rw [hhp])) hl (relV_val hf (.tmp y))
        refine ⟨u, ?_, h5⟩
        have h3' : a.tmps.getD y undef = .pointer (some ad) := h3
        rw [hg2, Sem.run_bind, h3']
        simp [asAddr, h4]
    obtain ⟨v, h3, h4⟩ := one
    refine ⟨v :: vs, ?_, by simp only [RelVs]; exact ⟨v, vs, rfl, h4, h2⟩⟩
    simp only [List.mapM_cons, Sem.run_bind, h3, Result.andThen_ok, h1, Sem.run_pure]
theorem resF_ok {P : Program} {E : En} {c : Cx} {fn : Func} {st : St} {a : Act} {r : FV} (hi : Inv E c) (hhp : c.hp = st.hp) (h : resF P fn st = some r) (hf : RelVs c st.fr a.tmps.toList) : ∃ v, (results fn a.tmps).run P c.w = .ok v c.w ∧ RelV c r v := by
  unfold resF at h
  have key : ∀ xs, resL P st fn.results.toList = some xs → ∃ vs : List Value, (results fn a.tmps).run P c.w = .ok (if h : vs.toArray.size = 1 then vs.toArray[0] else .tuple vs.toArray) c.w ∧ RelVs c xs vs := by
    intro xs hxs
    obtain ⟨g, hg1, hg2, hg⟩ : ∃ g : ResultVar → Sem Value, (∀ t, g (.tmp t) = pure (a.tmps.getD t undef)) ∧ (∀ x t, g (.cell x t) = (do loadVar t (← asAddr (a.tmps.getD x undef)))) ∧ results fn a.tmps = (do
        let vs ← fn.results.mapM g
        pure (if h : vs.size = 1 then vs[0] else .tuple vs)) := by
      refine ⟨_, ?_, ?_, rfl⟩
      · intro t; rfl
      · intro x t; rfl
    obtain ⟨vs, h1, h2⟩ := resL_ok (P := P) (a := a) hi hhp hf g hg1 hg2 fn.results.toList xs hxs
    refine ⟨vs, ?_, h2⟩
    rw [hg, Sem.run_bind, Array.mapM_eq_mapM_toList, Sem.run_map, h1]
    rfl
  split at h
  · rename_i x hx
    simp only [Option.some.injEq] at h
    subst h
    obtain ⟨vs, h1, h2⟩ := key _ hx
    simp only [RelVs] at h2
    obtain ⟨v, vs', rfl, h3, rfl⟩ := h2
    exact ⟨v, h1, h3⟩
  · rename_i xs hne hx
    simp only [Option.some.injEq] at h
    subst h
    obtain ⟨vs, h1, h2⟩ := key _ hx
    refine ⟨_, h1, ?_⟩
    rw [dif_neg]
    · simp only [RelV]
      exact ⟨_, rfl, by simpa using h2⟩
    · intro hs
      have hl := h2.length
      have hl1 : vs.length = 1 := by simpa using hs
      obtain ⟨x, hx1⟩ := List.length_eq_one_iff.1 (hl.symm.trans hl1)
      exact hne x hx1
  · cases h
def StLe (st st' : St) : Prop := ∀ E a w, SRel E st a w → SRel E st' a w
inductive Run (P : Program) (fn : Func) : List Item → St → FV → List Ob → Prop
  | done {todo : List Item} {st : St} {r : FV} (h : isEnd todo = true) (hr : resF P fn st = some r) : Run P fn todo st r st.hp
  | step {todo todo' : List Item} {st st' : St} {r : FV} {H : List Ob} {obs : List Prop} (hs : List (Nat × Hn)) (h : stepF P hs todo st = some (todo', st', obs)) (hob : ∀ q ∈ obs, q) (k : Run P fn todo' st' r H) : Run P fn todo st r H
  | conv {todo : List Item} {st st' : St} {r : FV} {H : List Ob} (h : StLe st st') (k : Run P fn todo st' r H) : Run P fn todo st r H
theorem Run.sound {P : Program} (hmix : P.follows .mixedOrders = true) {f : FuncId} {fn : Func} (hfn : P.funcs[f]? = some fn) {todo : List Item} {st : St} {r : FV} {H : List Ob} (h : Run P fn todo st r H) :
    ∀ (E : En) (a : Act) (w : World) (b : Frame) (cs : List Frame), b.fn = f → b.kind = .normal → (∀ t v, E.fx t v → tdst t todo = true) → SRel E st a w → ∃ v w' fr, Steps P (lone (b.at a todo) cs w) (lone fr cs w') ∧ fr.fn = f ∧ fr.leaving P w' (.returned v) ∧ ∃ F' κ', Inv E ⟨F', w', κ', H⟩ ∧ RelV ⟨F', w', κ', H⟩ r v := by
  induction h with
  | done h hr =>
    intro E a w b cs hb hk hfx hrel
    rename_i todo st r
    obtain ⟨hd, c, rfl, hhp, hi, hf⟩ := hrel
    obtain ⟨v, h1, h2⟩ := resF_ok (P := P) hi hhp hr hf
    have hfin : ∃ todo', Steps P (lone (b.at a todo) cs c.w) (lone { b.at a todo' with mode := .returning } cs c.w) := by
      unfold isEnd at h
      split at h
      · exact ⟨_, .one step_end⟩
      · exact ⟨_, .one step_ret⟩
      · cases h
    obtain ⟨todo', hs⟩ := hfin
    refine ⟨v, c.w, _, hs, hb, ⟨rfl, hd.1, hk, fn, ?_, h1⟩, c.F, c.κ, ?_, ?_⟩
    · show P.funcs[b.fn]? = some fn
      rw [hb]; exact hfn
    · rw [← hhp]; exact hi
    · rw [← hhp]; exact h2
  | step hs h hob k ih =>
    intro E a w b cs hb hk hfx hrel
    obtain ⟨a', w', hrel', hst⟩ := stepF_ok hmix h hob hfx hrel b cs
    obtain ⟨v, w2, fr, h1, h2⟩ := ih E a' w' b cs hb hk (fun t v ht => stepF_dst h (hfx t v ht)) hrel'
    exact ⟨v, w2, fr, hst.trans h1, h2⟩
  | conv h k ih =>
    intro E a w b cs hb hk hfx hrel
    exact ih E a w b cs hb hk hfx (h E a w hrel)
theorem spec_of_run {P : Program} (hmix : P.follows .mixedOrders = true) {f : FuncId} {fn : Func} (hfn : P.funcs[f]? = some fn) {body : Code} (hb : fn.body = some body) {args : List FV} {r : FV} {H : List Ob}
    (h : Run P fn [.code body] ⟨args ++ List.replicate (fn.ntmps - args.length) .u, []⟩ r H) : Spec P f args r H := by
  intro w F κ vs hF hv cs
  have hlen := hv.length
  have hlen' : vs.size = args.length := by simpa using hlen
  let b : Frame := { (default : Frame) with fn := f, kind := .normal }
  have henter : Frame.enter P f vs .normal = b.at { tmps := vs ++ Array.replicate (fn.ntmps - vs.size) undef, defers := [] } [.code body] := by
    simp [Frame.enter, Frame.at, hfn, hb, b]
  have hinv : Inv ⟨w, F, fun _ => False, fun _ _ => False⟩ ⟨F, w, κ, []⟩ := ⟨Chg.refl _ _, fun _ h => h, fun b h => .inl h, hF, fun id => by simp [look, RelO], fun i j b h => by simp [look, Ob.mut] at h, fun i b h => by simp [look, Ob.mut] at h⟩
  obtain ⟨v, w', fr, h1, h2, h3, F', κ', h4, h5⟩ := h.sound hmix hfn ⟨w, F, fun _ => False, fun _ _ => False⟩ { tmps := vs ++ Array.replicate (fn.ntmps - vs.size) undef, defers := [] } w b cs rfl rfl (fun _ _ h => h.elim)
    ⟨⟨rfl, fun _ _ h => h.elim⟩, ⟨F, w, κ, []⟩, rfl, rfl, hinv, by
      simp only [Array.toList_append, Array.toList_replicate, hlen']
      refine hv.append ?_
      refine RelVs.of_get (by simp) fun i u _ hi => by simp [RelV]⟩
  refine ⟨.returned v, w', fr, ⟨v, F', κ', rfl, h4, h5⟩, ?_, h2, h3⟩
  rw [henter]
  exact h1
end Go.Proofs.YtjhnpaenhdbhpabV
set_option linter.unusedVariables false
set_option linter.unusedSimpArgs false
set_option linter.constructorNameAsVariable false
namespace Go.Proofs.YtjhnpaenhdbhpabV
open Go Go.RowKit
mutual
def FV.reo (ρ : Nat → Option (Nat × Option Nat)) : FV → FV
  | .u => .u
  | .und => .und
  | .nil => .nil
  | .p a => .p a
  | .agg cs => .agg (reos ρ cs)
  | .sref id e sz n => match ρ id with
    | some (j, some m) => .sref j e sz m
    | some (j, none) => .sref j e sz n
    | none => .u
  | .ssub id e sz lo n => match ρ id with
    | some (j, _) => .ssub j e sz lo n
    | none => .u
  | .ptr id i j => match ρ id with
    | some (k, _) => .ptr k i j
    | none => .u
  | .vptr m f => .vptr m f
  | .fn f cs => .fn f (reos ρ cs)
  | .tup us => .tup (reos ρ us)
def reos (ρ : Nat → Option (Nat × Option Nat)) : List FV → List FV
  | [] => []
  | x :: xs => x.reo ρ :: reos ρ xs
end
def obN : Ob → Option Nat
  | .arr _ _ _ n _ => some n
  | _ => none
def Ob.reo (ρ : Nat → Option (Nat × Option Nat)) : Ob → Ob
  | .box cs => .box (reos ρ cs)
  | o => o
structure Ro (ρ : Nat → Option (Nat × Option Nat)) (c c' : Cx) : Prop where
  F : c'.F = c.F
  w : c'.w = c.w
  o : ∀ id j m, ρ id = some (j, m) → look c'.hp j = (look c.hp id).reo ρ ∧ c'.κ j = c.κ id ∧ m = obN (look c.hp id)
mutual
theorem RelV.reo {ρ : Nat → Option (Nat × Option Nat)} {c c' : Cx} (h : Ro ρ c c') : ∀ (x : FV) (v : Value), RelV c x v → RelV c' (x.reo ρ) v
  | .u, v, _ => by simp [FV.reo, RelV]
  | .und, v, r => by simpa [FV.reo, RelV] using r
  | .nil, v, r => by simpa [FV.reo, RelV] using r
  | .p a, v, r => by
    simp only [FV.reo, RelV] at r ⊢
    rw [h.F, h.w]
    exact r
  | .agg cs, v, r => by
    simp only [FV.reo, RelV] at r ⊢
    obtain ⟨vs, hv, hr⟩ := r
    exact ⟨vs, hv, RelVs.reo h cs _ hr⟩
  | .sref id e sz n, v, r => by
    simp only [FV.reo]
    cases hρ : ρ id with
    | none => simp [RelV]
    | some jm =>
      obtain ⟨j, m⟩ := jm
      obtain ⟨h1, h2, h3⟩ := h.o id j m hρ
      simp only [RelV] at r
      have hr := r.2
      have hcase : RefS (look c'.hp j) (c'.κ j) e sz n v := by
        rw [h1, h2]
        cases ho : look c.hp id <;> rw [ho] at hr <;> first | exact hr | trivial
      cases m with
      | none => simp only [RelV]; exact ⟨r.1, hcase⟩
      | some m =>
        have hn : m = n := by
          cases ho : look c.hp id with
          | arr own e1 sz1 n1 f =>
            rw [ho] at hr h3
            simp only [obN, Option.some.injEq] at h3
            exact h3.trans hr.2.2.1
          | _ => rw [ho] at h3; simp [obN] at h3
        subst hn
        simp only [RelV]
        exact ⟨r.1, hcase⟩
  | .ssub id e sz lo n, v, r => by
    simp only [FV.reo]
    cases hρ : ρ id with
    | none => simp [RelV]
    | some km =>
      obtain ⟨k, m⟩ := km
      simp only [RelV] at r ⊢
      refine ⟨r.1, ?_⟩
      have hr := r.2
      obtain ⟨h1, h2, _⟩ := h.o id k m hρ
      rw [h1, h2]
      cases ho : look c.hp id <;> rw [ho] at hr <;> first | exact hr | trivial
  | .ptr id i j, v, r => by
    simp only [FV.reo]
    cases hρ : ρ id with
    | none => simp [RelV]
    | some km =>
      obtain ⟨k, m⟩ := km
      simp only [RelV] at r ⊢
      obtain ⟨a, hv, hr⟩ := r
      refine ⟨a, hv, ?_⟩
      obtain ⟨h1, h2, _⟩ := h.o id k m hρ
      rw [h1, h2]
      cases ho : look c.hp id <;> rw [ho] at hr <;> first | exact hr | trivial
  | .vptr m f, v, r => by
    simp only [FV.reo, RelV] at r ⊢
    rw [h.F, h.w]
    exact r
  | .fn f caps, v, r => by
    simp only [FV.reo, RelV] at r ⊢
    obtain ⟨vs, hv, hr⟩ := r
    exact ⟨vs, hv, RelVs.reo h caps _ hr⟩
  | .tup us, v, r => by
    simp only [FV.reo, RelV] at r ⊢
    obtain ⟨vs, hv, hr⟩ := r
    exact ⟨vs, hv, RelVs.reo h us _ hr⟩
theorem RelVs.reo {ρ : Nat → Option (Nat × Option Nat)} {c c' : Cx} (h : Ro ρ c c') : ∀ (xs : List FV) (vs : List Value), RelVs c xs vs → RelVs c' (reos ρ xs) vs
  | [], vs, r => by simpa [reos, RelVs] using r
  | x :: xs, vs, r => by
    simp only [reos, RelVs] at r ⊢
    obtain ⟨v, vs', hv, h1, h2⟩ := r
    exact ⟨v, vs', hv, RelV.reo h x v h1, RelVs.reo h xs vs' h2⟩
end
theorem RelO.reo {ρ : Nat → Option (Nat × Option Nat)} {c c' : Cx} (h : Ro ρ c c') {v : Value} {o : Ob} (r : RelO c v o) : RelO c' v (o.reo ρ) := by
  cases o with
  | free => trivial
  | dead => trivial
  | arr own e sz n f =>
    obtain ⟨h0, xs, h1, h2, h3, h4⟩ := r
    exact ⟨h0, xs, by rw [h.w]; exact h1, fun i hi j hj => by rw [h.w, h.F]; exact h2 i hi j hj, h3, fun b hb => by rw [h.F]; exact h4 b hb⟩
  | box cs =>
    obtain ⟨b, C, t, h1, h2, h3, h4, h5⟩ := r
    exact ⟨b, C, t, h1, by rw [h.w]; exact h2, by rw [h.F]; exact h3, h4, RelVs.reo h _ _ h5⟩
theorem mut_reo (ρ : Nat → Option (Nat × Option Nat)) (o : Ob) : (o.reo ρ).mut = o.mut := by cases o <;> rfl
def idxOf (id : Nat) : List Nat → Nat → Option Nat
  | [], _ => none
  | x :: xs, k => if x = id then some k else idxOf id xs (k + 1)
theorem idxOf_spec {id : Nat} : ∀ (l : List Nat) (k j : Nat), idxOf id l k = some j → k ≤ j ∧ l[j - k]? = some id
  | [], k, j, h => by simp [idxOf] at h
  | x :: xs, k, j, h => by
    simp only [idxOf] at h
    split at h
    · rename_i e
      simp only [Option.some.injEq] at h
      subst h e
      simp
    · obtain ⟨h1, h2⟩ := idxOf_spec xs (k + 1) j h
      refine ⟨by omega, ?_⟩
      rw [show j - k = (j - (k + 1)) + 1 from by omega]
      simpa using h2
def nodupB : List Nat → Bool
  | [] => true
  | x :: xs => !xs.contains x && nodupB xs
theorem nodupB_spec : ∀ (l : List Nat), nodupB l = true → ∀ (i j x : Nat), l[i]? = some x → l[j]? = some x → i = j
  | [], _, i, j, x, h, _ => by simp at h
  | y :: l, h, i, j, x, h1, h2 => by
    simp only [nodupB, Bool.and_eq_true, Bool.not_eq_true', List.contains_eq_mem, decide_eq_false_iff_not] at h
    cases i with
    | zero =>
      cases j with
      | zero => rfl
      | succ j =>
        simp only [List.getElem?_cons_zero, Option.some.injEq] at h1
        subst h1
        exact absurd (List.mem_of_getElem? (by simpa using h2)) h.1
    | succ i =>
      cases j with
      | zero =>
        simp only [List.getElem?_cons_zero, Option.some.injEq] at h2
        subst h2
        exact absurd (List.mem_of_getElem? (by simpa using h1)) h.1
      | succ j => rw [nodupB_spec l h.2 i j x (by simpa using h1) (by simpa using h2)]
def addIds (acc : List Nat) : List Nat → List Nat
  | [] => acc
  | x :: xs => addIds (if acc.contains x then acc else acc ++ [x]) xs
def refsDeep : FV → List Nat
  | .fn _ cs => cs.flatMap refs1
  | .tup us => us.flatMap refs1
  | x => refsF x
def obRefs : Ob → List Nat
  | .box cs => cs.flatMap refsDeep
  | _ => []
def keepFr (keep : List Tmp) : List FV → Nat → List FV
  | [], _ => []
  | x :: xs, t => (if keep.contains t then x else .u) :: keepFr keep xs (t + 1)
def orderOf (hp : List Ob) (fr : List FV) : List Nat :=
  let o1 := addIds [] (fr.flatMap refsDeep)
  let o2 := addIds o1 (o1.flatMap fun id => obRefs (look hp id))
  addIds o2 (o2.flatMap fun id => obRefs (look hp id))
def rhoOf (hp : List Ob) (order : List Nat) (id : Nat) : Option (Nat × Option Nat) :=
  match idxOf id order 0 with
  | some j => some (j, obN (look hp id))
  | none => none
def canon (keep : List Tmp) (st : St) : St :=
  let fr := keepFr keep st.fr 0
  let order := orderOf st.hp fr
  if nodupB order then
    ⟨reos (rhoOf st.hp order) fr, order.map fun id => (look st.hp id).reo (rhoOf st.hp order)⟩
  else st
theorem keepFr_ok {c : Cx} {keep : List Tmp} : ∀ (fr : List FV) (vs : List Value) (t : Nat), RelVs c fr vs → RelVs c (keepFr keep fr t) vs
  | [], vs, t, h => by simpa [keepFr] using h
  | x :: xs, vs, t, h => by
    simp only [keepFr, RelVs] at h ⊢
    obtain ⟨v, vs', hv, h1, h2⟩ := h
    refine ⟨v, vs', hv, ?_, keepFr_ok xs vs' (t + 1) h2⟩
    split
    · exact h1
    · simp [RelV]
theorem canon_ok (keep : List Tmp) (st : St) : StLe st (canon keep st) := by
  intro E a w hr
  unfold canon
  dsimp only
  split
  case isFalse => exact hr
  rename_i hnd
  obtain ⟨hd, c, rfl, hhp, hi, hf⟩ := hr
  obtain ⟨order, ho⟩ : ∃ order, orderOf st.hp (keepFr keep st.fr 0) = order := ⟨_, rfl⟩
  rw [ho] at hnd ⊢
  have hlook : ∀ j, look (order.map fun id => (look st.hp id).reo (rhoOf st.hp order)) j = match order[j]? with | some id => (look st.hp id).reo (rhoOf st.hp order) | none => .free := by
    intro j
    unfold look
    rw [List.getD_eq_getElem?_getD, List.getElem?_map]
    cases order[j]? <;> rfl
  have hro : Ro (rhoOf st.hp order) c ⟨c.F, c.w, fun j => c.κ (order.getD j 0), order.map fun id => (look st.hp id).reo (rhoOf st.hp order)⟩ := by
    refine ⟨rfl, rfl, fun id j m hj => ?_⟩
    obtain ⟨hj2, rfl⟩ : idxOf id order 0 = some j ∧ m = obN (look st.hp id) := by
      unfold rhoOf at hj
      split at hj
      · rename_i j' hj'
        simp only [Option.some.injEq, Prod.mk.injEq] at hj
        obtain ⟨rfl, rfl⟩ := hj
        exact ⟨hj', rfl⟩
      · cases hj
    obtain ⟨_, h1⟩ := idxOf_spec order 0 j hj2
    rw [Nat.sub_zero] at h1
    refine ⟨?_, ?_, by rw [hhp]⟩
    · show look (order.map _) j = _
      rw [hlook, h1, hhp]
    · show c.κ (order.getD j 0) = c.κ id
      rw [List.getD_eq_getElem?_getD, h1]; rfl
  have hm : ∀ j, (look (order.map fun id => (look st.hp id).reo (rhoOf st.hp order)) j).mut = true → ∃ id, order[j]? = some id ∧ (look c.hp id).mut = true ∧ c.κ (order.getD j 0) = c.κ id := by
    intro j hj
    rw [hlook] at hj
    cases hq : order[j]? with
    | none => rw [hq] at hj; simp [Ob.mut] at hj
    | some id =>
      rw [hq] at hj
      simp only [mut_reo] at hj
      exact ⟨id, rfl, by rw [hhp]; exact hj, by rw [List.getD_eq_getElem?_getD, hq]; rfl⟩
  refine ⟨hd, ⟨c.F, c.w, fun j => c.κ (order.getD j 0), order.map fun id => (look st.hp id).reo (rhoOf st.hp order)⟩, rfl, rfl, ⟨hi.chg, hi.f0, hi.f1, hi.lt, fun j => ?_, fun i j b h1 h2 h3 h4 => ?_, fun i b h1 h2 => ?_⟩, RelVs.reo hro _ _ (keepFr_ok _ _ 0 hf)⟩
  · show RelO _ (c.κ (order.getD j 0)) (look (order.map _) j)
    rw [hlook]
    cases hq : order[j]? with
    | none => trivial
    | some id =>
      have e : c.κ (order.getD j 0) = c.κ id := by rw [List.getD_eq_getElem?_getD, hq]; rfl
      rw [e]
      have := RelO.reo hro (hi.objs id)
      rw [hhp] at this
      exact this
  · obtain ⟨x, hx, hx1, hx2⟩ := hm i h1
    obtain ⟨y, hy, hy1, hy2⟩ := hm j h2
    have h3' : blk (c.κ (order.getD i 0)) = some b := h3
    have h4' : blk (c.κ (order.getD j 0)) = some b := h4
    rw [hx2] at h3'
    rw [hy2] at h4'
    have := hi.inj x y b hx1 hy1 h3' h4'
    subst this
    exact nodupB_spec order hnd i j x hx hy
  · obtain ⟨x, hx, hx1, hx2⟩ := hm i h1
    have h2' : blk (c.κ (order.getD i 0)) = some b := h2
    rw [hx2] at h2'
    exact hi.own x b hx1 h2'
inductive Ac where
  | n (k : Nat)
  | r (hs : List (Nat × Hn))
  | k (keep : List Tmp)
  | f (t : Tmp)
def freezeAt (t : Tmp) (st : St) : St :=
  match st.fr[t]? with
  | some (.sref id _ _ _) => match look st.hp id with
    | .arr _ e sz n f => ⟨st.fr.set t (.p (.sl sz n f)), st.hp.set id (.arr false e sz n f)⟩
    | _ => st
  | _ => st
theorem freezeAt_ok (t : Tmp) (st : St) : StLe st (freezeAt t st) := by
  intro E a w hr
  unfold freezeAt
  split
  case h_2 => exact hr
  rename_i id e0 sz0 n0 hq
  split
  case h_2 => exact hr
  rename_i own e sz n f ho
  obtain ⟨hd, c, rfl, hhp, hi, hf⟩ := hr
  obtain ⟨F', h1, h2, h3⟩ := freeze_ok hi (id := id) (by rw [hhp]; exact ho)
  have hlt : t < st.fr.length := (List.getElem?_eq_some_iff.1 hq).1
  obtain ⟨v, hv1, hv2⟩ := hf.get t hlt
  have hv3 : st.fr[t] = .sref id e0 sz0 n0 := (List.getElem?_eq_some_iff.1 hq).2
  rw [hv3] at hv2
  simp only [RelV] at hv2
  have hk : v = c.κ id := by
    have := hv2.2
    rw [hhp, ho] at this
    exact this.2.2.2
  refine ⟨hd, ⟨F', c.w, c.κ, c.hp.set id (.arr false e sz n f)⟩, rfl, by rw [← hhp], h1, ?_⟩
  have hset := RelVs.set (c := ⟨F', c.w, c.κ, c.hp.set id (.arr false e sz n f)⟩) (x := .p (.sl sz n f)) (v := v) (by simp only [RelV]; rw [hk]; exact h3) (RelVs.keep h2 _ _ hf) t
  have hself : a.tmps.toList.set t v = a.tmps.toList := by
    apply List.ext_getElem?
    intro j
    rw [List.getElem?_set]
    split
    · rename_i e; subst e; rw [if_pos (by have := hf.length; rw [this]; exact hlt), hv1]
    · rfl
  rw [hself] at hset
  exact hset
def stepsF (P : Program) : Nat → List Item → St → List Prop → Option (List Item × St × List Prop)
  | 0, todo, st, obs => some (todo, st, obs)
  | n + 1, todo, st, obs => match stepF P [] todo st with
    | some (todo', st', o) => stepsF P n todo' st' (obs ++ o)
    | none => none
def exec (P : Program) : List Ac → List Item → St → List Prop → Option (List Item × St × List Prop)
  | [], todo, st, obs => some (todo, st, obs)
  | .n k :: ays, todo, st, obs => match stepsF P k todo st obs with
    | some (todo', st', obs') => exec P ays todo' st' obs'
    | none => none
  | .r hs :: ays, todo, st, obs => match stepF P hs todo st with
    | some (todo', st', o) => exec P ays todo' st' (obs ++ o)
    | none => none
  | .k keep :: ays, todo, st, obs => exec P ays todo (canon keep st) obs
  | .f t :: ays, todo, st, obs => exec P ays todo (freezeAt t st) obs
theorem stepsF_run {P : Program} {fn : Func} {r : FV} {H : List Ob} : ∀ (n : Nat) (todo todo' : List Item) (st st' : St) (obs obs' : List Prop), stepsF P n todo st obs = some (todo', st', obs') → (∀ q ∈ obs', q) → Run P fn todo' st' r H → Run P fn todo st r H ∧ ∀ q ∈ obs, q
  | 0, todo, todo', st, st', obs, obs', h, hob, k => by
    simp only [stepsF, Option.some.injEq, Prod.mk.injEq] at h
    obtain ⟨rfl, rfl, rfl⟩ := h
    exact ⟨k, hob⟩
  | n + 1, todo, todo', st, st', obs, obs', h, hob, k => by
    simp only [stepsF] at h
    split at h
    case h_2 => cases h
    rename_i t1 s1 o hs
    obtain ⟨h1, h2⟩ := stepsF_run n t1 todo' s1 st' (obs ++ o) obs' h hob k
    exact ⟨.step [] hs (fun q hq => h2 q (by simp [hq])) h1, fun q hq => h2 q (by simp [hq])⟩
theorem exec_run {P : Program} {fn : Func} {r : FV} {H : List Ob} : ∀ (ays : List Ac) (todo todo' : List Item) (st st' : St) (obs obs' : List Prop), exec P ays todo st obs = some (todo', st', obs') → (∀ q ∈ obs', q) → Run P fn todo' st' r H → Run P fn todo st r H ∧ ∀ q ∈ obs, q
  | [], todo, todo', st, st', obs, obs', h, hob, k => by
    simp only [exec, Option.some.injEq, Prod.mk.injEq] at h
    obtain ⟨rfl, rfl, rfl⟩ := h
    exact ⟨k, hob⟩
  | .n m :: ays, todo, todo', st, st', obs, obs', h, hob, k => by
    simp only [exec] at h
    split at h
    case h_2 => cases h
    rename_i t1 s1 o hs
    obtain ⟨h1, h2⟩ := exec_run ays t1 todo' s1 st' o obs' h hob k
    exact stepsF_run m todo t1 st s1 obs o hs h2 h1
  | .r hs :: ays, todo, todo', st, st', obs, obs', h, hob, k => by
    simp only [exec] at h
    split at h
    case h_2 => cases h
    rename_i t1 s1 o hst
    obtain ⟨h1, h2⟩ := exec_run ays t1 todo' s1 st' (obs ++ o) obs' h hob k
    exact ⟨.step hs hst (fun q hq => h2 q (by simp [hq])) h1, fun q hq => h2 q (by simp [hq])⟩
  | .k keep :: ays, todo, todo', st, st', obs, obs', h, hob, k => by
    simp only [exec] at h
    obtain ⟨h1, h2⟩ := exec_run ays todo todo' (canon keep st) st' obs obs' h hob k
    exact ⟨.conv (canon_ok keep st) h1, h2⟩
  | .f t :: ays, todo, todo', st, st', obs, obs', h, hob, k => by
    simp only [exec] at h
    obtain ⟨h1, h2⟩ := exec_run ays todo todo' (freezeAt t st) st' obs obs' h hob k
    exact ⟨.conv (freezeAt_ok t st) h1, h2⟩
structure Obs (l : List Prop) : Prop where mk ::
  h : AllP l
theorem Obs.of {α : Prop} {l : List Prop} (h : α = AllP l) (x : α) : Obs l := ⟨h ▸ x⟩
theorem Obs.tt {l : List Prop} (h : l = []) : Obs l := ⟨by rw [h]; trivial⟩
def obsF (P : Program) (ays : List Ac) (todo : List Item) (st : St) : List Prop :=
  match exec P ays todo st [] with
  | some x => x.2.2
  | none => []
def endF (P : Program) (ays : List Ac) (todo : List Item) (st : St) : Option (List Item × St) :=
  match exec P ays todo st [] with
  | some x => some (x.1, x.2.1)
  | none => none
theorem Run.go {P : Program} {fn : Func} {r : FV} {H : List Ob} {todo todo' : List Item} {st st' : St} (ays : List Ac) (h : endF P ays todo st = some (todo', st')) (hob : Obs (obsF P ays todo st)) (k : Run P fn todo' st' r H) : Run P fn todo st r H := by
  unfold endF at h
  replace hob := hob.h
  unfold obsF at hob
  cases he : exec P ays todo st [] with
  | none => simp [he] at h
  | some x =>
    simp only [he, Option.some.injEq, Prod.mk.injEq] at h hob
    obtain ⟨rfl, rfl⟩ := h
    exact (exec_run ays todo _ st _ [] _ he hob.all k).1
def closeR (r : FV) (H : List Ob) : Option (FV × List Ob) :=
  match canon [0] ⟨[r], H⟩ with
  | ⟨[r'], H'⟩ => some (r', H')
  | _ => none
theorem closeR_ok {E : En} {F : Nat → Prop} {w : World} {κ : Nat → Value} {r r' : FV} {H H' : List Ob} {v : Value} (h : closeR r H = some (r', H')) (hi : Inv E ⟨F, w, κ, H⟩) (hr : RelV ⟨F, w, κ, H⟩ r v) : ∃ F' κ', Inv E ⟨F', w, κ', H'⟩ ∧ RelV ⟨F', w, κ', H'⟩ r' v := by
  unfold closeR at h
  split at h
  case h_2 => cases h
  rename_i r1 H1 he
  simp only [Option.some.injEq, Prod.mk.injEq] at h
  obtain ⟨rfl, rfl⟩ := h
  obtain ⟨_, c, hw, hhp, hi', hf⟩ := canon_ok [0] ⟨[r], H⟩ ⟨E.w, E.F, E.M, fun _ _ => False⟩ { tmps := #[v], defers := [] } w ⟨⟨rfl, fun _ _ h => h.elim⟩, ⟨F, w, κ, H⟩, rfl, rfl, ⟨hi.chg, hi.f0, hi.f1, hi.lt, hi.objs, hi.inj, hi.own⟩, by simp only [RelVs]; exact ⟨v, [], rfl, hr, rfl⟩⟩
  rw [he] at hhp hf
  obtain ⟨F', w', κ', hp'⟩ := c
  simp only at hw hhp hf
  subst hw hhp
  simp only [RelVs] at hf
  obtain ⟨v', vs, hvv, h1, h2⟩ := hf
  simp only [List.cons.injEq] at hvv
  obtain ⟨rfl, _⟩ := hvv
  exact ⟨F', κ', ⟨hi'.chg, hi'.f0, hi'.f1, hi'.lt, hi'.objs, hi'.inj, hi'.own⟩, h1⟩
def plainR : FV → List Ob → Option (FV × List Ob)
  | .agg cs, hp => match toAVs (look hp) cs with
    | some ays => some (.agg (ays.map .p), setUps hp (frzs (look hp) cs))
    | none => none
  | x, hp => some (x, hp)
def plainRs : List FV → List Ob → Option (List FV × List Ob)
  | [], hp => some ([], hp)
  | x :: xs, hp => match plainR x hp with
    | none => none
    | some (y, hp1) => match plainRs xs hp1 with
      | none => none
      | some (ys, hp2) => some (y :: ys, hp2)
def plainT : FV → List Ob → Option (FV × List Ob)
  | .tup us, hp => match plainRs us hp with
    | none => none
    | some (ys, hp') => some (.tup ys, hp')
  | x, hp => plainR x hp
theorem plainR_ok {E : En} {F : Nat → Prop} {w : World} {κ : Nat → Value} {r r' : FV} {H H' : List Ob} {v : Value} (h : plainR r H = some (r', H')) (hi : Inv E ⟨F, w, κ, H⟩) (hr : RelV ⟨F, w, κ, H⟩ r v) :
    ∃ F', Inv E ⟨F', w, κ, H'⟩ ∧ Le ⟨F, w, κ, H⟩ ⟨F', w, κ, H'⟩ ∧ RelV ⟨F', w, κ, H'⟩ r' v := by
  by_cases hx : ∃ cs, r = .agg cs
  · obtain ⟨cs, rfl⟩ := hx
    simp only [plainR] at h
    split at h
    case h_2 => cases h
    rename_i ays has
    simp only [Option.some.injEq, Prod.mk.injEq] at h
    obtain ⟨rfl, rfl⟩ := h
    simp only [RelV] at hr
    obtain ⟨vs, rfl, hvs⟩ := hr
    obtain ⟨F', h1, h2, h3, h4, h5⟩ := frzs_ok (E := E) (look H) cs ays ⟨F, w, κ, H⟩ vs.toList hi (fun id => .inr (.inl rfl)) has hvs
    exact ⟨F', h1, h2, by simp only [RelV]; exact ⟨vs, rfl, relVs_p h4 h5⟩⟩
  · have : r' = r ∧ H' = H := by
      cases r <;> first | exact absurd ⟨_, rfl⟩ hx | (simp only [plainR, Option.some.injEq, Prod.mk.injEq] at h; exact ⟨h.1.symm, h.2.symm⟩)
    obtain ⟨rfl, rfl⟩ := this
    exact ⟨F, hi, Le.refl _, hr⟩
theorem plainRs_ok {E : En} {w : World} {κ : Nat → Value} : ∀ (rs rs' : List FV) (F : Nat → Prop) (H H' : List Ob) (vs : List Value), plainRs rs H = some (rs', H') → Inv E ⟨F, w, κ, H⟩ → RelVs ⟨F, w, κ, H⟩ rs vs →
    ∃ F', Inv E ⟨F', w, κ, H'⟩ ∧ Le ⟨F, w, κ, H⟩ ⟨F', w, κ, H'⟩ ∧ RelVs ⟨F', w, κ, H'⟩ rs' vs
  | [], rs', F, H, H', vs, h, hi, hr => by
    simp only [plainRs, Option.some.injEq, Prod.mk.injEq] at h
    obtain ⟨rfl, rfl⟩ := h
    exact ⟨F, hi, Le.refl _, by simpa [RelVs] using hr⟩
  | x :: xs, rs', F, H, H', vs, h, hi, hr => by
    simp only [plainRs] at h
    split at h
    case h_1 => cases h
    rename_i y hp1 hy
    split at h
    case h_1 => cases h
    rename_i ys hp2 hys
    simp only [Option.some.injEq, Prod.mk.injEq] at h
    obtain ⟨rfl, rfl⟩ := h
    simp only [RelVs] at hr
    obtain ⟨v, vs', rfl, hv, hvs⟩ := hr
    obtain ⟨F1, i1, l1, r1⟩ := plainR_ok hy hi hv
    obtain ⟨F2, i2, l2, r2⟩ := plainRs_ok xs ys F1 hp1 hp2 vs' hys i1 (RelVs.keep l1 _ _ hvs)
    exact ⟨F2, i2, Le.trans l1 l2, by simp only [RelVs]; exact ⟨v, vs', rfl, RelV.keep l2 _ _ r1, r2⟩⟩
theorem plainT_ok {E : En} {F : Nat → Prop} {w : World} {κ : Nat → Value} {r r' : FV} {H H' : List Ob} {v : Value} (h : plainT r H = some (r', H')) (hi : Inv E ⟨F, w, κ, H⟩) (hr : RelV ⟨F, w, κ, H⟩ r v) :
    ∃ F', Inv E ⟨F', w, κ, H'⟩ ∧ RelV ⟨F', w, κ, H'⟩ r' v := by
  by_cases hx : ∃ us, r = .tup us
  · obtain ⟨us, rfl⟩ := hx
    simp only [plainT] at h
    split at h
    case h_1 => cases h
    rename_i ys hp' hys
    simp only [Option.some.injEq, Prod.mk.injEq] at h
    obtain ⟨rfl, rfl⟩ := h
    simp only [RelV] at hr
    obtain ⟨vs, rfl, hvs⟩ := hr
    obtain ⟨F', h1, _, h3⟩ := plainRs_ok us ys F H hp' vs.toList hys hi hvs
    exact ⟨F', h1, by simp only [RelV]; exact ⟨vs, rfl, h3⟩⟩
  · have : plainR r H = some (r', H') := by
      cases r <;> first | exact absurd ⟨_, rfl⟩ hx | exact h
    obtain ⟨F', h1, _, h3⟩ := plainR_ok this hi hr
    exact ⟨F', h1, h3⟩
def RunC (P : Program) (fn : Func) (todo : List Item) (st : St) (r : FV) (H : List Ob) : Prop := ∃ r0 H0, Run P fn todo st r0 H0 ∧ (∃ r1 H1, plainT r0 H0 = some (r1, H1) ∧ closeR r1 H1 = some (r, H))
theorem RunC.go {P : Program} {fn : Func} {r : FV} {H : List Ob} {todo todo' : List Item} {st st' : St} (ays : List Ac) (h : endF P ays todo st = some (todo', st')) (hob : Obs (obsF P ays todo st)) (k : RunC P fn todo' st' r H) : RunC P fn todo st r H := by
  obtain ⟨r0, H0, k1, k2⟩ := k
  exact ⟨r0, H0, Run.go ays h hob k1, k2⟩
def outF (P : Program) (fn : Func) (ays : List Ac) (todo : List Item) (st : St) : Option (FV × List Ob) :=
  match exec P ays todo st [] with
  | some x => if isEnd x.1 then match resF P fn x.2.1 with
      | some r => match plainT r x.2.1.hp with
        | some (r1, H1) => closeR r1 H1
        | none => none
      | none => none
    else none
  | none => none
theorem RunC.out {P : Program} {fn : Func} {r : FV} {H : List Ob} {todo : List Item} {st : St} (ays : List Ac) (h : outF P fn ays todo st = some (r, H)) (hob : Obs (obsF P ays todo st)) : RunC P fn todo st r H := by
  unfold outF at h
  replace hob := hob.h
  unfold obsF at hob
  cases he : exec P ays todo st [] with
  | none => simp [he] at h
  | some x =>
    simp only [he] at h hob
    split at h
    case isFalse => cases h
    rename_i hend
    split at h
    case h_2 => cases h
    rename_i r' hr
    split at h
    case h_2 => cases h
    rename_i r1 H1 hp
    exact ⟨r', _, (exec_run ays todo _ st _ [] _ he hob.all (.done hend hr)).1, r1, H1, hp, h⟩
theorem spec_of {P : Program} (hmix : P.follows .mixedOrders = true) {f : FuncId} {fn : Func} (hfn : P.funcs[f]? = some fn) {body : Code} (hb : fn.body = some body) {args : List FV} {r : FV} {H : List Ob} {todo : List Item} {st : St}
    (ht : ([.code body], (⟨args ++ List.replicate (fn.ntmps - args.length) .u, []⟩ : St)) = (todo, st)) (h : RunC P fn todo st r H) : Spec P f args r H := by
  simp only [Prod.mk.injEq] at ht
  obtain ⟨rfl, rfl⟩ := ht
  obtain ⟨r0, H0, h1, r1, H1, hp, h2⟩ := h
  intro w F κ vs hF hv
  refine (spec_of_run hmix hfn hb h1 w F κ vs hF hv).mono fun e w' ⟨v, F', κ', he, hI, hR⟩ => ?_
  obtain ⟨F1, hI1, hR1⟩ := plainT_ok hp hI hR
  obtain ⟨F2, κ2, h3, h4⟩ := closeR_ok h2 hI1 hR1
  exact ⟨v, F2, κ2, he, h3, h4⟩
def nav : Nat → List Bool → List Item → List Item
  | 0, _, t => t
  | n + 1, bs, t => match t with
    | .inBlock _ :: k => nav n bs k
    | .inLoop c :: k => nav n bs (.code c :: .inLoop c :: k)
    | .code c :: k => match c with
      | .skip => nav n bs k
      | .label _ => nav n bs k
      | .region .. => nav n bs k
      | .seq x y => nav n bs (.code x :: .code y :: k)
      | .cond _ x y => match bs with
        | b :: bs => nav n bs (.code (if b then x else y) :: k)
        | [] => t
      | .block id c => nav n bs (.code c :: .inBlock id :: k)
      | .loop c => nav n bs (.code c :: .inLoop c :: k)
      | .exit id => match exitTo id k with
        | some k' => nav n bs k'
        | none => t
      | _ => t
    | t => t
def bodyOf (fn : Func) : Code := fn.body.getD .skip
def frOf : Nat → Nat → List (Nat × FV) → List FV
  | 0, _, _ => []
  | n + 1, t, [] => .u :: frOf n (t + 1) []
  | n + 1, t, (i, x) :: l => if i = t then x :: frOf n (t + 1) l else .u :: frOf n (t + 1) ((i, x) :: l)
def eL {α : Type} (sz : Nat) (c : α → List AV) (d : α) (xs : List α) : AV := .sl sz xs.length (fun i j => (c (xs.getD i d)).getD j .u)
def oL {α : Type} (own : Bool) (e sz : Nat) (c : α → List AV) (d : α) (xs : List α) : Ob := .arr own e sz xs.length (fun i j => (c (xs.getD i d)).getD j .u)
def cI (k : IntKind) (x : Int) : List AV := [.int k x]
def cL {α : Type} (sz : Nat) (c : α → List AV) (d : α) (x : List α) : List AV := [eL sz c d x]
theorem le_nil {α : Type} (e sz : Nat) (c : α → List AV) (d : α) : ObLe (.arr true e sz 0 (fun _ _ => .u)) (oL true e sz c d []) :=
  ⟨rfl, rfl, rfl, rfl, fun i hi => absurd hi (Nat.not_lt_zero _)⟩
theorem le_one {α : Type} (e sz : Nat) (c : α → List AV) (d : α) (x : α) : ObLe (.arr true e sz 1 (fun a b => (c x).getD (a * sz + b) .u)) (oL true e sz c d [x]) := by
  refine ⟨rfl, rfl, rfl, by simp, fun i hi j hj => ?_⟩
  have : i = 0 := by omega
  subst this
  simp
theorem le_app {α : Type} (e sz : Nat) (c : α → List AV) (d : α) (xs ys : List α) : ObLe (.arr true e sz (xs.length + ys.length) (appA xs.length (fun i j => (c (xs.getD i d)).getD j .u) (fun i j => (c (ys.getD i d)).getD j .u))) (oL true e sz c d (xs ++ ys)) := by
  refine ⟨rfl, rfl, rfl, by simp, fun i hi j hj => ?_⟩
  unfold appA
  split
  · rename_i h
    dsimp only
    congr 2
    rw [List.getD_eq_getElem?_getD, List.getD_eq_getElem?_getD, List.getElem?_append_left h]
  · rename_i h
    dsimp only
    congr 2
    rw [List.getD_eq_getElem?_getD, List.getD_eq_getElem?_getD, List.getElem?_append_right (by omega)]
theorem le_set {α : Type} (e sz : Nat) (c : α → List AV) (d : α) (xs : List α) (x : α) (q : Nat) (hs : (c x).length = sz) : ObLe (.arr true e sz xs.length (fun i' j' => if i' = q ∧ 0 ≤ j' ∧ j' < 0 + sz then (c x).getD (j' - 0) .u else (c (xs.getD i' d)).getD j' .u)) (oL true e sz c d (xs.set q x)) := by
  refine ⟨rfl, rfl, rfl, by simp, fun i hi j hj => ?_⟩
  dsimp only
  by_cases h : i = q
  · subst h
    rw [if_pos ⟨rfl, Nat.zero_le _, by omega⟩, Nat.sub_zero]
    congr 2
    simp [List.getD_eq_getElem?_getD, hi]
  · rw [if_neg (fun h' => h h'.1)]
    congr 2
    simp [List.getD_eq_getElem?_getD, List.getElem?_set_ne (Ne.symm h)]
theorem ite_some {α : Type} {c : Prop} [Decidable c] {a : Option α} {r : α} (h : (if c then a else none) = some r) : c ∧ a = some r := by
  split at h
  · exact ⟨‹c›, h⟩
  · cases h
theorem ite_or {α : Type} {c : Prop} [Decidable c] {a b : Option α} {r : α} (h : (if c then a else b) = some r) : (c ∧ a = some r) ∨ (¬ c ∧ b = some r) := by
  split at h
  · exact .inl ⟨‹c›, h⟩
  · exact .inr ⟨‹¬ c›, h⟩
theorem bind_or {α β : Type} {a : Option α} {f : α → Option β} {r : β} (h : a.bind f = some r) : ∃ x, a = some x ∧ f x = some r := Option.bind_eq_some_iff.1 h
theorem nt {b : Bool} (h : ¬ (b = true)) : b = false := by cases b <;> simp_all
theorem le_build0 {α : Type} (e sz : Nat) (c : α → List AV) (d : α) : ObLe (.arr true e sz 0 (fun a b => ([] : List AV).getD (a * sz + b) .u)) (oL true e sz c d []) :=
  ⟨rfl, rfl, rfl, rfl, fun i hi => absurd hi (Nat.not_lt_zero _)⟩
theorem ObLe.refl {own : Bool} {e sz n : Nat} {f : Nat → Nat → AV} : ObLe (.arr own e sz n f) (.arr own e sz n f) := ⟨rfl, rfl, rfl, rfl, fun _ _ _ _ => rfl⟩
theorem fle_rfl (x : FV) : FVLe x x := fun _ _ h => h
theorem fle_nil {α : Type} (sz : Nat) (c : α → List AV) (d : α) : FVLe .nil (.p (eL sz c d [])) := by
  intro cx v h
  simp only [RelV] at h ⊢
  exact ⟨none, 0, h, Nat.le_refl _, fun _ => rfl, .inl rfl⟩
theorem fls_nil : FVsLe [] [] := fun _ _ h => h
theorem fls_cons {x y : FV} {xs ys : List FV} (h : FVLe x y) (k : FVsLe xs ys) : FVsLe (x :: xs) (y :: ys) := by
  intro c vs hr
  simp only [RelVs] at hr ⊢
  obtain ⟨v, vs', hv, h1, h2⟩ := hr
  exact ⟨v, vs', hv, h _ _ h1, k _ _ h2⟩
theorem fle_agg {xs ys : List FV} (h : FVsLe xs ys) : FVLe (.agg xs) (.agg ys) := by
  intro c v hr
  simp only [RelV] at hr ⊢
  obtain ⟨vs, hv, h1⟩ := hr
  exact ⟨vs, hv, h _ _ h1⟩
def subL {α : Type} (xs : List α) (l h : Int) : List α := (xs.take h.toNat).drop l.toNat
theorem subL_len {α : Type} {xs : List α} {l h : Int} (hb : 0 ≤ l ∧ l ≤ h ∧ h ≤ (xs.length : Int)) : (subL xs l h).length = h.toNat - l.toNat := by
  rw [subL, List.length_drop, List.length_take]; omega
theorem subL_get {α : Type} {xs : List α} {l h : Int} (d : α) {i : Nat} (hi : i < h.toNat - l.toNat) : (subL xs l h).getD i d = xs.getD (l.toNat + i) d := by
  rw [subL, List.getD_eq_getElem?_getD, List.getD_eq_getElem?_getD, List.getElem?_drop, List.getElem?_take, if_pos (by omega)]
theorem le_appSS {α : Type} (e sz : Nat) (c : α → List AV) (d : α) (xs ys : List α) (h1 l2 h2 : Int) (b1 : 0 ≤ (0 : Int) ∧ 0 ≤ h1 ∧ h1 ≤ (xs.length : Int)) (b2 : 0 ≤ l2 ∧ l2 ≤ h2 ∧ h2 ≤ (ys.length : Int)) :
    ObLe (.arr true e sz ((h1.toNat - (0 : Int).toNat) + (h2.toNat - l2.toNat)) (appA (h1.toNat - (0 : Int).toNat) (fun i j => (c (xs.getD i d)).getD j .u) (fun a b => (c (ys.getD (l2.toNat + a) d)).getD b .u))) (oL true e sz c d (subL xs 0 h1 ++ subL ys l2 h2)) := by
  have e1 := subL_len b1
  have e2 := subL_len b2
  refine ⟨rfl, rfl, rfl, by rw [List.length_append, e1, e2], fun i hi j hj => ?_⟩
  unfold appA
  dsimp only
  split
  · rename_i h
    rw [List.getD_eq_getElem?_getD (l := subL xs 0 h1 ++ subL ys l2 h2), List.getElem?_append_left (by rw [e1]; exact h), ← List.getD_eq_getElem?_getD, subL_get d h]
    simp
  · rename_i h
    rw [List.getD_eq_getElem?_getD (l := subL xs 0 h1 ++ subL ys l2 h2), List.getElem?_append_right (by rw [e1]; omega), ← List.getD_eq_getElem?_getD, e1, subL_get d (by omega)]
def copyL {α : Type} (xs : List α) (l h : Int) (ys : List α) : List α := xs.take l.toNat ++ (ys.take (h.toNat - l.toNat) ++ xs.drop (l.toNat + min ys.length (h.toNat - l.toNat)))
theorem le_copySS {α : Type} (e sz : Nat) (c : α → List AV) (d : α) (xs ys : List α) (l h l2 h2 : Int) (b1 : 0 ≤ l ∧ l ≤ h ∧ h ≤ (xs.length : Int)) (b2 : 0 ≤ l2 ∧ l2 ≤ h2 ∧ h2 ≤ (ys.length : Int)) :
    ObLe (.arr true e sz xs.length (cpA l.toNat (Nat.min (h2.toNat - l2.toNat) (h.toNat - l.toNat)) (fun i j => (c (xs.getD i d)).getD j .u) (fun a b => (c (ys.getD (l2.toNat + a) d)).getD b .u))) (oL true e sz c d (copyL xs l h (subL ys l2 h2))) := by
  have e2 := subL_len b2
  have hmin : Nat.min (h2.toNat - l2.toNat) (h.toNat - l.toNat) = min (h2.toNat - l2.toNat) (h.toNat - l.toNat) := rfl
  have hl1 : (xs.take l.toNat).length = l.toNat := by rw [List.length_take]; omega
  have hl2 : ((subL ys l2 h2).take (h.toNat - l.toNat)).length = min (h2.toNat - l2.toNat) (h.toNat - l.toNat) := by rw [List.length_take, e2]; omega
  refine ⟨rfl, rfl, rfl, ?_, fun i hi j hj => ?_⟩
  · rw [copyL, List.length_append, List.length_append, hl1, hl2, List.length_drop, e2]
    omega
  · unfold cpA
    dsimp only
    rw [hmin]
    rw [List.getD_eq_getElem?_getD (l := copyL xs l h (subL ys l2 h2)), copyL]
    by_cases h1 : i < l.toNat
    · rw [if_neg (by omega), List.getElem?_append_left (by omega), List.getElem?_take, if_pos h1, ← List.getD_eq_getElem?_getD]
    · rw [List.getElem?_append_right (by omega), hl1]
      by_cases h3 : i < l.toNat + min (h2.toNat - l2.toNat) (h.toNat - l.toNat)
      · rw [if_pos ⟨by omega, h3⟩, List.getElem?_append_left (by omega), List.getElem?_take, if_pos (by omega), ← List.getD_eq_getElem?_getD, subL_get d (by omega)]
      · rw [if_neg (by omega), List.getElem?_append_right (by omega), hl2, List.getElem?_drop, e2, ← List.getD_eq_getElem?_getD]
        congr 3
        omega
theorem itp {α : Type} {c : Prop} [Decidable c] {a b : Option α} {r : α} (h : c) (k : a = some r) : (if c then a else b) = some r := by rw [if_pos h]; exact k
theorem itn {α : Type} {c : Prop} [Decidable c] {a b : Option α} {r : α} (h : ¬ c) (k : b = some r) : (if c then a else b) = some r := by rw [if_neg h]; exact k
theorem bnd {α β : Type} {a : Option α} {f : α → Option β} {x : α} {r : β} (h : a = some x) (k : f x = some r) : a.bind f = some r := by rw [h]; exact k
end Go.Proofs.YtjhnpaenhdbhpabV
set_option linter.unusedVariables false
set_option linter.unusedSimpArgs false
set_option maxRecDepth 100000
namespace Go.Proofs.YtjhnpaenhdbhpabV
open Go Go.RowKit
theorem mix : Try.prog.follows .mixedOrders = true := by kernel_rfl
structure TValue where
  f0 : Int
  f1 : Int
  f2 : ByteArray
def dValue : TValue := ⟨(0 : Int), (0 : Int), (⟨#[]⟩ : ByteArray)⟩
def cValue (x : TValue) : List AV := [.int .i64 x.f0, .int .i64 x.f1, .str x.f2]
structure TEntry where
  f0 : (List TValue)
  f1 : Int
def dEntry : TEntry := ⟨([] : List TValue), (0 : Int)⟩
def cEntry (x : TEntry) : List AV := [(eL 3 cValue dValue x.f0), .int .i64 x.f1]
structure TCache where
  f0 : ByteArray
  f1 : ByteArray
  f2 : Int
  f3 : Int
def cCache (x : TCache) : List AV := [.str x.f0, .str x.f1, .int .i64 x.f2, .int .i64 x.f3]
structure TCached where
  f0 : TValue
  f1 : (List TEntry)
  f2 : Int
def dCached : TCached := ⟨dValue, ([] : List TEntry), (0 : Int)⟩
def cCached (x : TCached) : List AV := [.int .i64 x.f0.f0, .int .i64 x.f0.f1, .str x.f0.f2, (eL 2 cEntry dEntry x.f1), .int .i64 x.f2]
end Go.Proofs.YtjhnpaenhdbhpabV
set_option linter.unusedVariables false
set_option linter.unusedSimpArgs false
set_option maxRecDepth 100000
namespace Go.Proofs.YtjhnpaenhdbhpabV
open Go Go.RowKit
noncomputable def erasureref01_Valid  (k : Nat) (v0 : TValue) : Option Bool := if (v0.f0 == 0) = true then (if (v0.f1 == 0) = true then (some (v0.f2.data.toList == (⟨#[]⟩ : ByteArray).data.toList)) else (some false)) else (if (v0.f0 == 1) = true then (if (decide (v0.f1 ≥ (-4294967296))) = true then (if (decide (v0.f1 ≤ 4294967296)) = true then (some (v0.f2.data.toList == (⟨#[]⟩ : ByteArray).data.toList)) else (some false)) else (some false)) else (if (v0.f0 == 2) = true then (if (v0.f1 == 0) = true then (some (decide ((v0.f2.size : Int) ≤ 32))) else (some false)) else (some false)))
noncomputable def erasureref01_Valid.t : List Item := [.code (bodyOf Try.f41)]
noncomputable def erasureref01_Valid.s (v0 : TValue) : St := ⟨frOf Try.f41.ntmps 0 [(0, .agg ((cValue v0).map .p))], []⟩
theorem erasureref01_Valid.run   {k : Nat} {v0 : TValue} {r : Bool} (h : erasureref01_Valid k v0 = some r) : RunC Try.prog Try.f41 erasureref01_Valid.t (erasureref01_Valid.s v0) (.p (.bool r)) [] := by
  unfold erasureref01_Valid at h
  rcases ite_or h with ⟨g_1, h⟩ | ⟨g_1, h⟩
  · rcases ite_or h with ⟨g_2, h⟩ | ⟨g_2, h⟩
    · obtain rfl := Option.some.inj h
      exact RunC.out [.n 7, .r [(1, .dec true)], .n 2, .r [(3, .dec true)]] (by kernel_rfl) (Obs.of (by kernel_rfl) (And.intro g_1 g_2))
    · obtain rfl := Option.some.inj h
      exact RunC.out [.n 7, .r [(1, .dec true)], .n 2, .r [(3, .dec false)]] (by kernel_rfl) (Obs.of (by kernel_rfl) (And.intro g_1 (nt g_2)))
  · rcases ite_or h with ⟨g_3, h⟩ | ⟨g_3, h⟩
    · rcases ite_or h with ⟨g_4, h⟩ | ⟨g_4, h⟩
      · rcases ite_or h with ⟨g_5, h⟩ | ⟨g_5, h⟩
        · obtain rfl := Option.some.inj h
          exact RunC.out [.n 7, .r [(1, .dec false)], .n 2, .r [(1, .dec true)], .n 2, .r [(3, .dec true), (8, .dec true)]] (by kernel_rfl) (Obs.of (by kernel_rfl) (And.intro (nt g_1) (And.intro g_3 (And.intro g_4 g_5))))
        · obtain rfl := Option.some.inj h
          exact RunC.out [.n 7, .r [(1, .dec false)], .n 2, .r [(1, .dec true)], .n 2, .r [(3, .dec true), (8, .dec false)]] (by kernel_rfl) (Obs.of (by kernel_rfl) (And.intro (nt g_1) (And.intro g_3 (And.intro g_4 (nt g_5)))))
      · obtain rfl := Option.some.inj h
        exact RunC.out [.n 7, .r [(1, .dec false)], .n 2, .r [(1, .dec true)], .n 2, .r [(3, .dec false)]] (by kernel_rfl) (Obs.of (by kernel_rfl) (And.intro (nt g_1) (And.intro g_3 (nt g_4))))
    · rcases ite_or h with ⟨g_6, h⟩ | ⟨g_6, h⟩
      · rcases ite_or h with ⟨g_7, h⟩ | ⟨g_7, h⟩
        · obtain rfl := Option.some.inj h
          exact RunC.out [.n 7, .r [(1, .dec false)], .n 2, .r [(1, .dec false)], .n 2, .r [(1, .dec true)], .n 2, .r [(3, .dec true)]] (by kernel_rfl) (Obs.of (by kernel_rfl) (And.intro (nt g_1) (And.intro (nt g_3) (And.intro g_6 g_7))))
        · obtain rfl := Option.some.inj h
          exact RunC.out [.n 7, .r [(1, .dec false)], .n 2, .r [(1, .dec false)], .n 2, .r [(1, .dec true)], .n 2, .r [(3, .dec false)]] (by kernel_rfl) (Obs.of (by kernel_rfl) (And.intro (nt g_1) (And.intro (nt g_3) (And.intro g_6 (nt g_7)))))
      · obtain rfl := Option.some.inj h
        exact RunC.out [.n 7, .r [(1, .dec false)], .n 2, .r [(1, .dec false)], .n 2, .r [(1, .dec false)], .n 5] (by kernel_rfl) (Obs.of (by kernel_rfl) (And.intro (nt g_1) (And.intro (nt g_3) (nt g_6))))
theorem erasureref01_Valid.mono   : ∀ (k k' : Nat) (v0 : TValue) (r : Bool), k ≤ k' → erasureref01_Valid k v0 = some r → erasureref01_Valid k' v0 = some r := by
  intro k k' v0 r hk h
  unfold erasureref01_Valid at h ⊢
  rcases ite_or h with ⟨g_1, h⟩ | ⟨g_1, h⟩
  · refine itp g_1 ?_
    rcases ite_or h with ⟨g_2, h⟩ | ⟨g_2, h⟩
    · refine itp g_2 ?_
      exact h
    · refine itn g_2 ?_
      exact h
  · refine itn g_1 ?_
    rcases ite_or h with ⟨g_3, h⟩ | ⟨g_3, h⟩
    · refine itp g_3 ?_
      rcases ite_or h with ⟨g_4, h⟩ | ⟨g_4, h⟩
      · refine itp g_4 ?_
        rcases ite_or h with ⟨g_5, h⟩ | ⟨g_5, h⟩
        · refine itp g_5 ?_
          exact h
        · refine itn g_5 ?_
          exact h
      · refine itn g_4 ?_
        exact h
    · refine itn g_3 ?_
      rcases ite_or h with ⟨g_6, h⟩ | ⟨g_6, h⟩
      · refine itp g_6 ?_
        rcases ite_or h with ⟨g_7, h⟩ | ⟨g_7, h⟩
        · refine itp g_7 ?_
          exact h
        · refine itn g_7 ?_
          exact h
      · refine itn g_6 ?_
        exact h
theorem erasureref01_Valid.spec {k : Nat} {v0 : TValue} {r : Bool} (h : erasureref01_Valid k v0 = some r) : Spec Try.prog 41 [.agg ((cValue v0).map .p)] (.p (.bool r)) [] :=
  spec_of mix Try.func41 (body := bodyOf Try.f41) (by kernel_rfl) (by kernel_rfl) (erasureref01_Valid.run h)
end Go.Proofs.YtjhnpaenhdbhpabV
set_option linter.unusedVariables false
set_option linter.unusedSimpArgs false
set_option maxRecDepth 100000
namespace Go.Proofs.YtjhnpaenhdbhpabV
open Go Go.RowKit
noncomputable def erasureref01_Clean.p1  (k : Nat) (v1b : TValue) (v2b : TValue) : Option TValue := some v1b
noncomputable def erasureref01_Clean.p2  (k : Nat) (v2b : TValue) : Option TValue := some (TValue.mk 0 0 (⟨#[]⟩ : ByteArray))
noncomputable def erasureref01_Clean  (k : Nat) (v0 : TValue) : Option TValue := (erasureref01_Valid k v0).bind fun y_1 => if y_1 = true then (erasureref01_Clean.p1 k v0 (TValue.mk 0 0 (⟨#[]⟩ : ByteArray))) else (erasureref01_Clean.p2 k (TValue.mk 0 0 (⟨#[]⟩ : ByteArray)))
noncomputable def erasureref01_Clean.t : List Item := [.code (bodyOf Try.f16)]
noncomputable def erasureref01_Clean.s (v0 : TValue) : St := ⟨frOf Try.f16.ntmps 0 [(0, .agg ((cValue v0).map .p))], []⟩
noncomputable def erasureref01_Clean.p1.t : List Item := nav 6 [true] erasureref01_Clean.t
noncomputable def erasureref01_Clean.p1.s (v1b : TValue) (v2b : TValue) : St := ⟨frOf Try.f16.ntmps 0 [(1, .ptr 0 0 0), (2, .ptr 1 0 0)], [.box ((cValue v1b).map .p), .box ((cValue v2b).map .p)]⟩
noncomputable def erasureref01_Clean.p2.t : List Item := nav 6 [false] erasureref01_Clean.t
noncomputable def erasureref01_Clean.p2.s (v2b : TValue) : St := ⟨frOf Try.f16.ntmps 0 [(2, .ptr 0 0 0)], [.box ((cValue v2b).map .p)]⟩
theorem erasureref01_Clean.p1.run   {k : Nat} {v1b : TValue} {v2b : TValue} {r : TValue} (h : erasureref01_Clean.p1 k v1b v2b = some r) : RunC Try.prog Try.f16 erasureref01_Clean.p1.t (erasureref01_Clean.p1.s v1b v2b) (.agg ((cValue r).map .p)) [] := by
  unfold erasureref01_Clean.p1 at h
  obtain rfl := Option.some.inj h
  exact RunC.out [.n 2] (by kernel_rfl) (Obs.tt (by kernel_rfl))
theorem erasureref01_Clean.p2.run   {k : Nat} {v2b : TValue} {r : TValue} (h : erasureref01_Clean.p2 k v2b = some r) : RunC Try.prog Try.f16 erasureref01_Clean.p2.t (erasureref01_Clean.p2.s v2b) (.agg ((cValue r).map .p)) [] := by
  unfold erasureref01_Clean.p2 at h
  obtain rfl := Option.some.inj h
  exact RunC.out [.n 3] (by kernel_rfl) (Obs.tt (by kernel_rfl))
theorem erasureref01_Clean.run   {k : Nat} {v0 : TValue} {r : TValue} (h : erasureref01_Clean k v0 = some r) : RunC Try.prog Try.f16 erasureref01_Clean.t (erasureref01_Clean.s v0) (.agg ((cValue r).map .p)) [] := by
  unfold erasureref01_Clean at h
  obtain ⟨y_1, e_2, h⟩ := bind_or h
  rcases Bool.eq_false_or_eq_true y_1 with hb | hb <;> subst hb
  · rw [if_pos rfl] at h
    exact RunC.go [.n 4, .r [(1, .call (.p (.bool true)) [])], .n 1, .k [1, 2]] (by kernel_rfl) (Obs.of (by kernel_rfl) (erasureref01_Valid.spec e_2)) (erasureref01_Clean.p1.run h)
  · rw [if_neg (by decide)] at h
    exact RunC.go [.n 4, .r [(1, .call (.p (.bool false)) [])], .n 1, .k [2]] (by kernel_rfl) (Obs.of (by kernel_rfl) (erasureref01_Valid.spec e_2)) (erasureref01_Clean.p2.run h)
theorem erasureref01_Clean.p1.mono   : ∀ (k k' : Nat) (v1b : TValue) (v2b : TValue) (r : TValue), k ≤ k' → erasureref01_Clean.p1 k v1b v2b = some r → erasureref01_Clean.p1 k' v1b v2b = some r := by
  intro k k' v1b v2b r hk h
  unfold erasureref01_Clean.p1 at h ⊢
  exact h
theorem erasureref01_Clean.p2.mono   : ∀ (k k' : Nat) (v2b : TValue) (r : TValue), k ≤ k' → erasureref01_Clean.p2 k v2b = some r → erasureref01_Clean.p2 k' v2b = some r := by
  intro k k' v2b r hk h
  unfold erasureref01_Clean.p2 at h ⊢
  exact h
theorem erasureref01_Clean.mono   : ∀ (k k' : Nat) (v0 : TValue) (r : TValue), k ≤ k' → erasureref01_Clean k v0 = some r → erasureref01_Clean k' v0 = some r := by
  intro k k' v0 r hk h
  unfold erasureref01_Clean at h ⊢
  obtain ⟨y_1, e_2, h⟩ := bind_or h
  refine bnd (erasureref01_Valid.mono _ _ _ _ hk e_2) ?_
  rcases ite_or h with ⟨hb, h⟩ | ⟨hb, h⟩
  · refine itp hb ?_
    exact erasureref01_Clean.p1.mono _ _ _ _ r hk h
  · refine itn hb ?_
    exact erasureref01_Clean.p2.mono _ _ _ r hk h
theorem erasureref01_Clean.spec {k : Nat} {v0 : TValue} {r : TValue} (h : erasureref01_Clean k v0 = some r) : Spec Try.prog 16 [.agg ((cValue v0).map .p)] (.agg ((cValue r).map .p)) [] :=
  spec_of mix Try.func16 (body := bodyOf Try.f16) (by kernel_rfl) (by kernel_rfl) (erasureref01_Clean.run h)
end Go.Proofs.YtjhnpaenhdbhpabV
set_option linter.unusedVariables false
set_option linter.unusedSimpArgs false
set_option maxRecDepth 100000
namespace Go.Proofs.YtjhnpaenhdbhpabV
open Go Go.RowKit
noncomputable def erasureref01_Int  (k : Nat) (n0 : Int) : Option TValue := (erasureref01_Clean k (TValue.mk 1 n0 (⟨#[]⟩ : ByteArray))).bind fun y_1 => (some y_1)
noncomputable def erasureref01_Int.t : List Item := [.code (bodyOf Try.f18)]
noncomputable def erasureref01_Int.s (n0 : Int) : St := ⟨frOf Try.f18.ntmps 0 [(0, .p (.int .i64 n0))], []⟩
theorem erasureref01_Int.run   {k : Nat} {n0 : Int} {r : TValue} (h : erasureref01_Int k n0 = some r) : RunC Try.prog Try.f18 erasureref01_Int.t (erasureref01_Int.s n0) (.agg ((cValue r).map .p)) [] := by
  unfold erasureref01_Int at h
  obtain ⟨y_1, e_2, h⟩ := bind_or h
  obtain rfl := Option.some.inj h
  exact RunC.out [.n 3, .r [(2, .call (.agg ((cValue y_1).map .p)) [])]] (by kernel_rfl) (Obs.of (by kernel_rfl) (erasureref01_Clean.spec e_2))
theorem erasureref01_Int.mono   : ∀ (k k' : Nat) (n0 : Int) (r : TValue), k ≤ k' → erasureref01_Int k n0 = some r → erasureref01_Int k' n0 = some r := by
  intro k k' n0 r hk h
  unfold erasureref01_Int at h ⊢
  obtain ⟨y_1, e_2, h⟩ := bind_or h
  refine bnd (erasureref01_Clean.mono _ _ _ _ hk e_2) ?_
  exact h
theorem erasureref01_Int.spec {k : Nat} {n0 : Int} {r : TValue} (h : erasureref01_Int k n0 = some r) : Spec Try.prog 18 [.p (.int .i64 n0)] (.agg ((cValue r).map .p)) [] :=
  spec_of mix Try.func18 (body := bodyOf Try.f18) (by kernel_rfl) (by kernel_rfl) (erasureref01_Int.run h)
end Go.Proofs.YtjhnpaenhdbhpabV
set_option linter.unusedVariables false
set_option linter.unusedSimpArgs false
set_option maxRecDepth 100000
namespace Go.Proofs.YtjhnpaenhdbhpabV
open Go Go.RowKit
noncomputable def value_inRange  (k : Nat) (n0 : Int) : Option Bool := if (decide (n0 ≥ (-4294967296))) = true then (some (decide (n0 ≤ 4294967296))) else (some false)
noncomputable def value_inRange.t : List Item := [.code (bodyOf Try.f63)]
noncomputable def value_inRange.s (n0 : Int) : St := ⟨frOf Try.f63.ntmps 0 [(0, .p (.int .i64 n0))], []⟩
theorem value_inRange.run   {k : Nat} {n0 : Int} {r : Bool} (h : value_inRange k n0 = some r) : RunC Try.prog Try.f63 value_inRange.t (value_inRange.s n0) (.p (.bool r)) [] := by
  unfold value_inRange at h
  rcases ite_or h with ⟨g_1, h⟩ | ⟨g_1, h⟩
  · obtain rfl := Option.some.inj h
    exact RunC.out [.n 3, .r [(2, .dec true)]] (by kernel_rfl) (Obs.of (by kernel_rfl) g_1)
  · obtain rfl := Option.some.inj h
    exact RunC.out [.n 3, .r [(2, .dec false)]] (by kernel_rfl) (Obs.of (by kernel_rfl) (nt g_1))
theorem value_inRange.mono   : ∀ (k k' : Nat) (n0 : Int) (r : Bool), k ≤ k' → value_inRange k n0 = some r → value_inRange k' n0 = some r := by
  intro k k' n0 r hk h
  unfold value_inRange at h ⊢
  rcases ite_or h with ⟨g_1, h⟩ | ⟨g_1, h⟩
  · refine itp g_1 ?_
    exact h
  · refine itn g_1 ?_
    exact h
theorem value_inRange.spec {k : Nat} {n0 : Int} {r : Bool} (h : value_inRange k n0 = some r) : Spec Try.prog 63 [.p (.int .i64 n0)] (.p (.bool r)) [] :=
  spec_of mix Try.func63 (body := bodyOf Try.f63) (by kernel_rfl) (by kernel_rfl) (value_inRange.run h)
end Go.Proofs.YtjhnpaenhdbhpabV
set_option linter.unusedVariables false
set_option linter.unusedSimpArgs false
set_option maxRecDepth 100000
namespace Go.Proofs.YtjhnpaenhdbhpabV
open Go Go.RowKit
noncomputable def value_Valid  (k : Nat) (v0 : TValue) : Option Bool := if (v0.f0 == 0) = true then (if (v0.f1 == 0) = true then (some (v0.f2.data.toList == (⟨#[]⟩ : ByteArray).data.toList)) else (some false)) else (if (v0.f0 == 1) = true then ((value_inRange k v0.f1).bind fun y_4 => (if y_4 = true then (some (v0.f2.data.toList == (⟨#[]⟩ : ByteArray).data.toList)) else (some false))) else (if (v0.f0 == 2) = true then (if (v0.f1 == 0) = true then (some (decide ((v0.f2.size : Int) ≤ 32))) else (some false)) else (some false)))
noncomputable def value_Valid.t : List Item := [.code (bodyOf Try.f50)]
noncomputable def value_Valid.s (v0 : TValue) : St := ⟨frOf Try.f50.ntmps 0 [(0, .agg ((cValue v0).map .p))], []⟩
theorem value_Valid.run   {k : Nat} {v0 : TValue} {r : Bool} (h : value_Valid k v0 = some r) : RunC Try.prog Try.f50 value_Valid.t (value_Valid.s v0) (.p (.bool r)) [] := by
  unfold value_Valid at h
  rcases ite_or h with ⟨g_1, h⟩ | ⟨g_1, h⟩
  · rcases ite_or h with ⟨g_2, h⟩ | ⟨g_2, h⟩
    · obtain rfl := Option.some.inj h
      exact RunC.out [.n 7, .r [(1, .dec true)], .n 2, .r [(3, .dec true)]] (by kernel_rfl) (Obs.of (by kernel_rfl) (And.intro g_1 g_2))
    · obtain rfl := Option.some.inj h
      exact RunC.out [.n 7, .r [(1, .dec true)], .n 2, .r [(3, .dec false)]] (by kernel_rfl) (Obs.of (by kernel_rfl) (And.intro g_1 (nt g_2)))
  · rcases ite_or h with ⟨g_3, h⟩ | ⟨g_3, h⟩
    · obtain ⟨y_4, e_5, h⟩ := bind_or h
      rcases ite_or h with ⟨g_6, h⟩ | ⟨g_6, h⟩
      · obtain rfl := Option.some.inj h
        exact RunC.out [.n 7, .r [(1, .dec false)], .n 2, .r [(1, .dec true)], .n 2, .r [(2, .call (.p (.bool y_4)) []), (3, .dec true)]] (by kernel_rfl) (Obs.of (by kernel_rfl) (And.intro (nt g_1) (And.intro g_3 (And.intro (value_inRange.spec e_5) g_6))))
      · obtain rfl := Option.some.inj h
        exact RunC.out [.n 7, .r [(1, .dec false)], .n 2, .r [(1, .dec true)], .n 2, .r [(2, .call (.p (.bool y_4)) []), (3, .dec false)]] (by kernel_rfl) (Obs.of (by kernel_rfl) (And.intro (nt g_1) (And.intro g_3 (And.intro (value_inRange.spec e_5) (nt g_6)))))
    · rcases ite_or h with ⟨g_7, h⟩ | ⟨g_7, h⟩
      · rcases ite_or h with ⟨g_8, h⟩ | ⟨g_8, h⟩
        · obtain rfl := Option.some.inj h
          exact RunC.out [.n 7, .r [(1, .dec false)], .n 2, .r [(1, .dec false)], .n 2, .r [(1, .dec true)], .n 2, .r [(3, .dec true)]] (by kernel_rfl) (Obs.of (by kernel_rfl) (And.intro (nt g_1) (And.intro (nt g_3) (And.intro g_7 g_8))))
        · obtain rfl := Option.some.inj h
          exact RunC.out [.n 7, .r [(1, .dec false)], .n 2, .r [(1, .dec false)], .n 2, .r [(1, .dec true)], .n 2, .r [(3, .dec false)]] (by kernel_rfl) (Obs.of (by kernel_rfl) (And.intro (nt g_1) (And.intro (nt g_3) (And.intro g_7 (nt g_8)))))
      · obtain rfl := Option.some.inj h
        exact RunC.out [.n 7, .r [(1, .dec false)], .n 2, .r [(1, .dec false)], .n 2, .r [(1, .dec false)], .n 5] (by kernel_rfl) (Obs.of (by kernel_rfl) (And.intro (nt g_1) (And.intro (nt g_3) (nt g_7))))
theorem value_Valid.mono   : ∀ (k k' : Nat) (v0 : TValue) (r : Bool), k ≤ k' → value_Valid k v0 = some r → value_Valid k' v0 = some r := by
  intro k k' v0 r hk h
  unfold value_Valid at h ⊢
  rcases ite_or h with ⟨g_1, h⟩ | ⟨g_1, h⟩
  · refine itp g_1 ?_
    rcases ite_or h with ⟨g_2, h⟩ | ⟨g_2, h⟩
    · refine itp g_2 ?_
      exact h
    · refine itn g_2 ?_
      exact h
  · refine itn g_1 ?_
    rcases ite_or h with ⟨g_3, h⟩ | ⟨g_3, h⟩
    · refine itp g_3 ?_
      obtain ⟨y_4, e_5, h⟩ := bind_or h
      refine bnd (value_inRange.mono _ _ _ _ hk e_5) ?_
      rcases ite_or h with ⟨g_6, h⟩ | ⟨g_6, h⟩
      · refine itp g_6 ?_
        exact h
      · refine itn g_6 ?_
        exact h
    · refine itn g_3 ?_
      rcases ite_or h with ⟨g_7, h⟩ | ⟨g_7, h⟩
      · refine itp g_7 ?_
        rcases ite_or h with ⟨g_8, h⟩ | ⟨g_8, h⟩
        · refine itp g_8 ?_
          exact h
        · refine itn g_8 ?_
          exact h
      · refine itn g_7 ?_
        exact h
theorem value_Valid.spec {k : Nat} {v0 : TValue} {r : Bool} (h : value_Valid k v0 = some r) : Spec Try.prog 50 [.agg ((cValue v0).map .p)] (.p (.bool r)) [] :=
  spec_of mix Try.func50 (body := bodyOf Try.f50) (by kernel_rfl) (by kernel_rfl) (value_Valid.run h)
end Go.Proofs.YtjhnpaenhdbhpabV
set_option linter.unusedVariables false
set_option linter.unusedSimpArgs false
set_option maxRecDepth 100000
namespace Go.Proofs.YtjhnpaenhdbhpabV
open Go Go.RowKit
noncomputable def value_Clean.p1  (k : Nat) (v1b : TValue) (v2b : TValue) : Option TValue := some v1b
noncomputable def value_Clean.p2  (k : Nat) (v2b : TValue) : Option TValue := some (TValue.mk 0 0 (⟨#[]⟩ : ByteArray))
noncomputable def value_Clean  (k : Nat) (v0 : TValue) : Option TValue := (value_Valid k v0).bind fun y_1 => if y_1 = true then (value_Clean.p1 k v0 (TValue.mk 0 0 (⟨#[]⟩ : ByteArray))) else (value_Clean.p2 k (TValue.mk 0 0 (⟨#[]⟩ : ByteArray)))
noncomputable def value_Clean.t : List Item := [.code (bodyOf Try.f37)]
noncomputable def value_Clean.s (v0 : TValue) : St := ⟨frOf Try.f37.ntmps 0 [(0, .agg ((cValue v0).map .p))], []⟩
noncomputable def value_Clean.p1.t : List Item := nav 6 [true] value_Clean.t
noncomputable def value_Clean.p1.s (v1b : TValue) (v2b : TValue) : St := ⟨frOf Try.f37.ntmps 0 [(1, .ptr 0 0 0), (2, .ptr 1 0 0)], [.box ((cValue v1b).map .p), .box ((cValue v2b).map .p)]⟩
noncomputable def value_Clean.p2.t : List Item := nav 6 [false] value_Clean.t
noncomputable def value_Clean.p2.s (v2b : TValue) : St := ⟨frOf Try.f37.ntmps 0 [(2, .ptr 0 0 0)], [.box ((cValue v2b).map .p)]⟩
theorem value_Clean.p1.run   {k : Nat} {v1b : TValue} {v2b : TValue} {r : TValue} (h : value_Clean.p1 k v1b v2b = some r) : RunC Try.prog Try.f37 value_Clean.p1.t (value_Clean.p1.s v1b v2b) (.agg ((cValue r).map .p)) [] := by
  unfold value_Clean.p1 at h
  obtain rfl := Option.some.inj h
  exact RunC.out [.n 2] (by kernel_rfl) (Obs.tt (by kernel_rfl))
theorem value_Clean.p2.run   {k : Nat} {v2b : TValue} {r : TValue} (h : value_Clean.p2 k v2b = some r) : RunC Try.prog Try.f37 value_Clean.p2.t (value_Clean.p2.s v2b) (.agg ((cValue r).map .p)) [] := by
  unfold value_Clean.p2 at h
  obtain rfl := Option.some.inj h
  exact RunC.out [.n 3] (by kernel_rfl) (Obs.tt (by kernel_rfl))
theorem value_Clean.run   {k : Nat} {v0 : TValue} {r : TValue} (h : value_Clean k v0 = some r) : RunC Try.prog Try.f37 value_Clean.t (value_Clean.s v0) (.agg ((cValue r).map .p)) [] := by
  unfold value_Clean at h
  obtain ⟨y_1, e_2, h⟩ := bind_or h
  rcases Bool.eq_false_or_eq_true y_1 with hb | hb <;> subst hb
  · rw [if_pos rfl] at h
    exact RunC.go [.n 4, .r [(1, .call (.p (.bool true)) [])], .n 1, .k [1, 2]] (by kernel_rfl) (Obs.of (by kernel_rfl) (value_Valid.spec e_2)) (value_Clean.p1.run h)
  · rw [if_neg (by decide)] at h
    exact RunC.go [.n 4, .r [(1, .call (.p (.bool false)) [])], .n 1, .k [2]] (by kernel_rfl) (Obs.of (by kernel_rfl) (value_Valid.spec e_2)) (value_Clean.p2.run h)
theorem value_Clean.p1.mono   : ∀ (k k' : Nat) (v1b : TValue) (v2b : TValue) (r : TValue), k ≤ k' → value_Clean.p1 k v1b v2b = some r → value_Clean.p1 k' v1b v2b = some r := by
  intro k k' v1b v2b r hk h
  unfold value_Clean.p1 at h ⊢
  exact h
theorem value_Clean.p2.mono   : ∀ (k k' : Nat) (v2b : TValue) (r : TValue), k ≤ k' → value_Clean.p2 k v2b = some r → value_Clean.p2 k' v2b = some r := by
  intro k k' v2b r hk h
  unfold value_Clean.p2 at h ⊢
  exact h
theorem value_Clean.mono   : ∀ (k k' : Nat) (v0 : TValue) (r : TValue), k ≤ k' → value_Clean k v0 = some r → value_Clean k' v0 = some r := by
  intro k k' v0 r hk h
  unfold value_Clean at h ⊢
  obtain ⟨y_1, e_2, h⟩ := bind_or h
  refine bnd (value_Valid.mono _ _ _ _ hk e_2) ?_
  rcases ite_or h with ⟨hb, h⟩ | ⟨hb, h⟩
  · refine itp hb ?_
    exact value_Clean.p1.mono _ _ _ _ r hk h
  · refine itn hb ?_
    exact value_Clean.p2.mono _ _ _ r hk h
theorem value_Clean.spec {k : Nat} {v0 : TValue} {r : TValue} (h : value_Clean k v0 = some r) : Spec Try.prog 37 [.agg ((cValue v0).map .p)] (.agg ((cValue r).map .p)) [] :=
  spec_of mix Try.func37 (body := bodyOf Try.f37) (by kernel_rfl) (by kernel_rfl) (value_Clean.run h)
end Go.Proofs.YtjhnpaenhdbhpabV
set_option linter.unusedVariables false
set_option linter.unusedSimpArgs false
set_option maxRecDepth 100000
namespace Go.Proofs.YtjhnpaenhdbhpabV
open Go Go.RowKit
noncomputable def cmp_isNaN_int  (k : Nat) (x0 : Int) : Option Bool := some (x0 != x0)
noncomputable def cmp_isNaN_int.t : List Item := [.code (bodyOf Try.f70)]
noncomputable def cmp_isNaN_int.s (x0 : Int) : St := ⟨frOf Try.f70.ntmps 0 [(0, .p (.int .i64 x0))], []⟩
theorem cmp_isNaN_int.run   {k : Nat} {x0 : Int} {r : Bool} (h : cmp_isNaN_int k x0 = some r) : RunC Try.prog Try.f70 cmp_isNaN_int.t (cmp_isNaN_int.s x0) (.p (.bool r)) [] := by
  unfold cmp_isNaN_int at h
  obtain rfl := Option.some.inj h
  exact RunC.out [.n 4] (by kernel_rfl) (Obs.tt (by kernel_rfl))
theorem cmp_isNaN_int.mono   : ∀ (k k' : Nat) (x0 : Int) (r : Bool), k ≤ k' → cmp_isNaN_int k x0 = some r → cmp_isNaN_int k' x0 = some r := by
  intro k k' x0 r hk h
  unfold cmp_isNaN_int at h ⊢
  exact h
theorem cmp_isNaN_int.spec {k : Nat} {x0 : Int} {r : Bool} (h : cmp_isNaN_int k x0 = some r) : Spec Try.prog 70 [.p (.int .i64 x0)] (.p (.bool r)) [] :=
  spec_of mix Try.func70 (body := bodyOf Try.f70) (by kernel_rfl) (by kernel_rfl) (cmp_isNaN_int.run h)
end Go.Proofs.YtjhnpaenhdbhpabV
set_option linter.unusedVariables false
set_option linter.unusedSimpArgs false
set_option maxRecDepth 100000
namespace Go.Proofs.YtjhnpaenhdbhpabV
open Go Go.RowKit
noncomputable def cmp_Compare_int  (k : Nat) (x0 : Int) (y1 : Int) : Option Int := (cmp_isNaN_int k x0).bind fun y_1 => ((cmp_isNaN_int k y1).bind fun y_3 => (if y_1 = true then (if y_3 = true then (some 0) else (some (-1))) else (if y_3 = true then (some 1) else (if (decide (x0 < y1)) = true then (some (-1)) else (if (decide (x0 > y1)) = true then (some 1) else (some 0))))))
noncomputable def cmp_Compare_int.t : List Item := [.code (bodyOf Try.f59)]
noncomputable def cmp_Compare_int.s (x0 : Int) (y1 : Int) : St := ⟨frOf Try.f59.ntmps 0 [(0, .p (.int .i64 x0)), (1, .p (.int .i64 y1))], []⟩
theorem cmp_Compare_int.run   {k : Nat} {x0 : Int} {y1 : Int} {r : Int} (h : cmp_Compare_int k x0 y1 = some r) : RunC Try.prog Try.f59 cmp_Compare_int.t (cmp_Compare_int.s x0 y1) (.p (.int .i64 r)) [] := by
  unfold cmp_Compare_int at h
  obtain ⟨y_1, e_2, h⟩ := bind_or h
  obtain ⟨y_3, e_4, h⟩ := bind_or h
  rcases ite_or h with ⟨g_5, h⟩ | ⟨g_5, h⟩
  · rcases ite_or h with ⟨g_6, h⟩ | ⟨g_6, h⟩
    · obtain rfl := Option.some.inj h
      exact RunC.out [.n 3, .r [(1, .call (.p (.bool y_1)) [])], .n 1, .r [(1, .call (.p (.bool y_3)) [])], .n 2, .r [(0, .dec true)], .n 3, .r [(0, .dec true)], .n 3] (by kernel_rfl) (Obs.of (by kernel_rfl) (And.intro (cmp_isNaN_int.spec e_2) (And.intro (cmp_isNaN_int.spec e_4) (And.intro g_5 g_6))))
    · obtain rfl := Option.some.inj h
      exact RunC.out [.n 3, .r [(1, .call (.p (.bool y_1)) [])], .n 1, .r [(1, .call (.p (.bool y_3)) [])], .n 2, .r [(0, .dec true)], .n 3, .r [(0, .dec false)], .n 4] (by kernel_rfl) (Obs.of (by kernel_rfl) (And.intro (cmp_isNaN_int.spec e_2) (And.intro (cmp_isNaN_int.spec e_4) (And.intro g_5 (nt g_6)))))
  · rcases ite_or h with ⟨g_7, h⟩ | ⟨g_7, h⟩
    · obtain rfl := Option.some.inj h
      exact RunC.out [.n 3, .r [(1, .call (.p (.bool y_1)) [])], .n 1, .r [(1, .call (.p (.bool y_3)) [])], .n 2, .r [(0, .dec false)], .n 4, .r [(0, .dec true)], .n 3] (by kernel_rfl) (Obs.of (by kernel_rfl) (And.intro (cmp_isNaN_int.spec e_2) (And.intro (cmp_isNaN_int.spec e_4) (And.intro (nt g_5) g_7))))
    · rcases ite_or h with ⟨g_8, h⟩ | ⟨g_8, h⟩
      · obtain rfl := Option.some.inj h
        exact RunC.out [.n 3, .r [(1, .call (.p (.bool y_1)) [])], .n 1, .r [(1, .call (.p (.bool y_3)) [])], .n 2, .r [(0, .dec false)], .n 4, .r [(0, .dec false)], .n 4, .r [(2, .dec true)], .n 3] (by kernel_rfl) (Obs.of (by kernel_rfl) (And.intro (cmp_isNaN_int.spec e_2) (And.intro (cmp_isNaN_int.spec e_4) (And.intro (nt g_5) (And.intro (nt g_7) g_8)))))
      · rcases ite_or h with ⟨g_9, h⟩ | ⟨g_9, h⟩
        · obtain rfl := Option.some.inj h
          exact RunC.out [.n 3, .r [(1, .call (.p (.bool y_1)) [])], .n 1, .r [(1, .call (.p (.bool y_3)) [])], .n 2, .r [(0, .dec false)], .n 4, .r [(0, .dec false)], .n 4, .r [(2, .dec false)], .n 4, .r [(2, .dec true)], .n 3] (by kernel_rfl) (Obs.of (by kernel_rfl) (And.intro (cmp_isNaN_int.spec e_2) (And.intro (cmp_isNaN_int.spec e_4) (And.intro (nt g_5) (And.intro (nt g_7) (And.intro (nt g_8) g_9))))))
        · obtain rfl := Option.some.inj h
          exact RunC.out [.n 3, .r [(1, .call (.p (.bool y_1)) [])], .n 1, .r [(1, .call (.p (.bool y_3)) [])], .n 2, .r [(0, .dec false)], .n 4, .r [(0, .dec false)], .n 4, .r [(2, .dec false)], .n 4, .r [(2, .dec false)], .n 4] (by kernel_rfl) (Obs.of (by kernel_rfl) (And.intro (cmp_isNaN_int.spec e_2) (And.intro (cmp_isNaN_int.spec e_4) (And.intro (nt g_5) (And.intro (nt g_7) (And.intro (nt g_8) (nt g_9)))))))
theorem cmp_Compare_int.mono   : ∀ (k k' : Nat) (x0 : Int) (y1 : Int) (r : Int), k ≤ k' → cmp_Compare_int k x0 y1 = some r → cmp_Compare_int k' x0 y1 = some r := by
  intro k k' x0 y1 r hk h
  unfold cmp_Compare_int at h ⊢
  obtain ⟨y_1, e_2, h⟩ := bind_or h
  refine bnd (cmp_isNaN_int.mono _ _ _ _ hk e_2) ?_
  obtain ⟨y_3, e_4, h⟩ := bind_or h
  refine bnd (cmp_isNaN_int.mono _ _ _ _ hk e_4) ?_
  rcases ite_or h with ⟨g_5, h⟩ | ⟨g_5, h⟩
  · refine itp g_5 ?_
    rcases ite_or h with ⟨g_6, h⟩ | ⟨g_6, h⟩
    · refine itp g_6 ?_
      exact h
    · refine itn g_6 ?_
      exact h
  · refine itn g_5 ?_
    rcases ite_or h with ⟨g_7, h⟩ | ⟨g_7, h⟩
    · refine itp g_7 ?_
      exact h
    · refine itn g_7 ?_
      rcases ite_or h with ⟨g_8, h⟩ | ⟨g_8, h⟩
      · refine itp g_8 ?_
        exact h
      · refine itn g_8 ?_
        rcases ite_or h with ⟨g_9, h⟩ | ⟨g_9, h⟩
        · refine itp g_9 ?_
          exact h
        · refine itn g_9 ?_
          exact h
theorem cmp_Compare_int.spec {k : Nat} {x0 : Int} {y1 : Int} {r : Int} (h : cmp_Compare_int k x0 y1 = some r) : Spec Try.prog 59 [.p (.int .i64 x0), .p (.int .i64 y1)] (.p (.int .i64 r)) [] :=
  spec_of mix Try.func59 (body := bodyOf Try.f59) (by kernel_rfl) (by kernel_rfl) (cmp_Compare_int.run h)
end Go.Proofs.YtjhnpaenhdbhpabV
set_option linter.unusedVariables false
set_option linter.unusedSimpArgs false
set_option maxRecDepth 100000
namespace Go.Proofs.YtjhnpaenhdbhpabV
open Go Go.RowKit
noncomputable def cmp_isNaN_int64  (k : Nat) (x0 : Int) : Option Bool := some (x0 != x0)
noncomputable def cmp_isNaN_int64.t : List Item := [.code (bodyOf Try.f71)]
noncomputable def cmp_isNaN_int64.s (x0 : Int) : St := ⟨frOf Try.f71.ntmps 0 [(0, .p (.int .i64 x0))], []⟩
theorem cmp_isNaN_int64.run   {k : Nat} {x0 : Int} {r : Bool} (h : cmp_isNaN_int64 k x0 = some r) : RunC Try.prog Try.f71 cmp_isNaN_int64.t (cmp_isNaN_int64.s x0) (.p (.bool r)) [] := by
  unfold cmp_isNaN_int64 at h
  obtain rfl := Option.some.inj h
  exact RunC.out [.n 4] (by kernel_rfl) (Obs.tt (by kernel_rfl))
theorem cmp_isNaN_int64.mono   : ∀ (k k' : Nat) (x0 : Int) (r : Bool), k ≤ k' → cmp_isNaN_int64 k x0 = some r → cmp_isNaN_int64 k' x0 = some r := by
  intro k k' x0 r hk h
  unfold cmp_isNaN_int64 at h ⊢
  exact h
theorem cmp_isNaN_int64.spec {k : Nat} {x0 : Int} {r : Bool} (h : cmp_isNaN_int64 k x0 = some r) : Spec Try.prog 71 [.p (.int .i64 x0)] (.p (.bool r)) [] :=
  spec_of mix Try.func71 (body := bodyOf Try.f71) (by kernel_rfl) (by kernel_rfl) (cmp_isNaN_int64.run h)
end Go.Proofs.YtjhnpaenhdbhpabV
set_option linter.unusedVariables false
set_option linter.unusedSimpArgs false
set_option maxRecDepth 100000
namespace Go.Proofs.YtjhnpaenhdbhpabV
open Go Go.RowKit
noncomputable def cmp_Compare_int64  (k : Nat) (x0 : Int) (y1 : Int) : Option Int := (cmp_isNaN_int64 k x0).bind fun y_1 => ((cmp_isNaN_int64 k y1).bind fun y_3 => (if y_1 = true then (if y_3 = true then (some 0) else (some (-1))) else (if y_3 = true then (some 1) else (if (decide (x0 < y1)) = true then (some (-1)) else (if (decide (x0 > y1)) = true then (some 1) else (some 0))))))
noncomputable def cmp_Compare_int64.t : List Item := [.code (bodyOf Try.f60)]
noncomputable def cmp_Compare_int64.s (x0 : Int) (y1 : Int) : St := ⟨frOf Try.f60.ntmps 0 [(0, .p (.int .i64 x0)), (1, .p (.int .i64 y1))], []⟩
theorem cmp_Compare_int64.run   {k : Nat} {x0 : Int} {y1 : Int} {r : Int} (h : cmp_Compare_int64 k x0 y1 = some r) : RunC Try.prog Try.f60 cmp_Compare_int64.t (cmp_Compare_int64.s x0 y1) (.p (.int .i64 r)) [] := by
  unfold cmp_Compare_int64 at h
  obtain ⟨y_1, e_2, h⟩ := bind_or h
  obtain ⟨y_3, e_4, h⟩ := bind_or h
  rcases ite_or h with ⟨g_5, h⟩ | ⟨g_5, h⟩
  · rcases ite_or h with ⟨g_6, h⟩ | ⟨g_6, h⟩
    · obtain rfl := Option.some.inj h
      exact RunC.out [.n 3, .r [(1, .call (.p (.bool y_1)) [])], .n 1, .r [(1, .call (.p (.bool y_3)) [])], .n 2, .r [(0, .dec true)], .n 3, .r [(0, .dec true)], .n 3] (by kernel_rfl) (Obs.of (by kernel_rfl) (And.intro (cmp_isNaN_int64.spec e_2) (And.intro (cmp_isNaN_int64.spec e_4) (And.intro g_5 g_6))))
    · obtain rfl := Option.some.inj h
      exact RunC.out [.n 3, .r [(1, .call (.p (.bool y_1)) [])], .n 1, .r [(1, .call (.p (.bool y_3)) [])], .n 2, .r [(0, .dec true)], .n 3, .r [(0, .dec false)], .n 4] (by kernel_rfl) (Obs.of (by kernel_rfl) (And.intro (cmp_isNaN_int64.spec e_2) (And.intro (cmp_isNaN_int64.spec e_4) (And.intro g_5 (nt g_6)))))
  · rcases ite_or h with ⟨g_7, h⟩ | ⟨g_7, h⟩
    · obtain rfl := Option.some.inj h
      exact RunC.out [.n 3, .r [(1, .call (.p (.bool y_1)) [])], .n 1, .r [(1, .call (.p (.bool y_3)) [])], .n 2, .r [(0, .dec false)], .n 4, .r [(0, .dec true)], .n 3] (by kernel_rfl) (Obs.of (by kernel_rfl) (And.intro (cmp_isNaN_int64.spec e_2) (And.intro (cmp_isNaN_int64.spec e_4) (And.intro (nt g_5) g_7))))
    · rcases ite_or h with ⟨g_8, h⟩ | ⟨g_8, h⟩
      · obtain rfl := Option.some.inj h
        exact RunC.out [.n 3, .r [(1, .call (.p (.bool y_1)) [])], .n 1, .r [(1, .call (.p (.bool y_3)) [])], .n 2, .r [(0, .dec false)], .n 4, .r [(0, .dec false)], .n 4, .r [(2, .dec true)], .n 3] (by kernel_rfl) (Obs.of (by kernel_rfl) (And.intro (cmp_isNaN_int64.spec e_2) (And.intro (cmp_isNaN_int64.spec e_4) (And.intro (nt g_5) (And.intro (nt g_7) g_8)))))
      · rcases ite_or h with ⟨g_9, h⟩ | ⟨g_9, h⟩
        · obtain rfl := Option.some.inj h
          exact RunC.out [.n 3, .r [(1, .call (.p (.bool y_1)) [])], .n 1, .r [(1, .call (.p (.bool y_3)) [])], .n 2, .r [(0, .dec false)], .n 4, .r [(0, .dec false)], .n 4, .r [(2, .dec false)], .n 4, .r [(2, .dec true)], .n 3] (by kernel_rfl) (Obs.of (by kernel_rfl) (And.intro (cmp_isNaN_int64.spec e_2) (And.intro (cmp_isNaN_int64.spec e_4) (And.intro (nt g_5) (And.intro (nt g_7) (And.intro (nt g_8) g_9))))))
        · obtain rfl := Option.some.inj h
          exact RunC.out [.n 3, .r [(1, .call (.p (.bool y_1)) [])], .n 1, .r [(1, .call (.p (.bool y_3)) [])], .n 2, .r [(0, .dec false)], .n 4, .r [(0, .dec false)], .n 4, .r [(2, .dec false)], .n 4, .r [(2, .dec false)], .n 4] (by kernel_rfl) (Obs.of (by kernel_rfl) (And.intro (cmp_isNaN_int64.spec e_2) (And.intro (cmp_isNaN_int64.spec e_4) (And.intro (nt g_5) (And.intro (nt g_7) (And.intro (nt g_8) (nt g_9)))))))
theorem cmp_Compare_int64.mono   : ∀ (k k' : Nat) (x0 : Int) (y1 : Int) (r : Int), k ≤ k' → cmp_Compare_int64 k x0 y1 = some r → cmp_Compare_int64 k' x0 y1 = some r := by
  intro k k' x0 y1 r hk h
  unfold cmp_Compare_int64 at h ⊢
  obtain ⟨y_1, e_2, h⟩ := bind_or h
  refine bnd (cmp_isNaN_int64.mono _ _ _ _ hk e_2) ?_
  obtain ⟨y_3, e_4, h⟩ := bind_or h
  refine bnd (cmp_isNaN_int64.mono _ _ _ _ hk e_4) ?_
  rcases ite_or h with ⟨g_5, h⟩ | ⟨g_5, h⟩
  · refine itp g_5 ?_
    rcases ite_or h with ⟨g_6, h⟩ | ⟨g_6, h⟩
    · refine itp g_6 ?_
      exact h
    · refine itn g_6 ?_
      exact h
  · refine itn g_5 ?_
    rcases ite_or h with ⟨g_7, h⟩ | ⟨g_7, h⟩
    · refine itp g_7 ?_
      exact h
    · refine itn g_7 ?_
      rcases ite_or h with ⟨g_8, h⟩ | ⟨g_8, h⟩
      · refine itp g_8 ?_
        exact h
      · refine itn g_8 ?_
        rcases ite_or h with ⟨g_9, h⟩ | ⟨g_9, h⟩
        · refine itp g_9 ?_
          exact h
        · refine itn g_9 ?_
          exact h
theorem cmp_Compare_int64.spec {k : Nat} {x0 : Int} {y1 : Int} {r : Int} (h : cmp_Compare_int64 k x0 y1 = some r) : Spec Try.prog 60 [.p (.int .i64 x0), .p (.int .i64 y1)] (.p (.int .i64 r)) [] :=
  spec_of mix Try.func60 (body := bodyOf Try.f60) (by kernel_rfl) (by kernel_rfl) (cmp_Compare_int64.run h)
end Go.Proofs.YtjhnpaenhdbhpabV
set_option linter.unusedVariables false
set_option linter.unusedSimpArgs false
set_option maxRecDepth 100000
namespace Go.Proofs.YtjhnpaenhdbhpabV
open Go Go.RowKit
noncomputable def cmp_isNaN_string  (k : Nat) (x0 : ByteArray) : Option Bool := some (!(x0.data.toList == x0.data.toList))
noncomputable def cmp_isNaN_string.t : List Item := [.code (bodyOf Try.f72)]
noncomputable def cmp_isNaN_string.s (x0 : ByteArray) : St := ⟨frOf Try.f72.ntmps 0 [(0, .p (.str x0))], []⟩
theorem cmp_isNaN_string.run   {k : Nat} {x0 : ByteArray} {r : Bool} (h : cmp_isNaN_string k x0 = some r) : RunC Try.prog Try.f72 cmp_isNaN_string.t (cmp_isNaN_string.s x0) (.p (.bool r)) [] := by
  unfold cmp_isNaN_string at h
  obtain rfl := Option.some.inj h
  exact RunC.out [.n 4] (by kernel_rfl) (Obs.tt (by kernel_rfl))
theorem cmp_isNaN_string.mono   : ∀ (k k' : Nat) (x0 : ByteArray) (r : Bool), k ≤ k' → cmp_isNaN_string k x0 = some r → cmp_isNaN_string k' x0 = some r := by
  intro k k' x0 r hk h
  unfold cmp_isNaN_string at h ⊢
  exact h
theorem cmp_isNaN_string.spec {k : Nat} {x0 : ByteArray} {r : Bool} (h : cmp_isNaN_string k x0 = some r) : Spec Try.prog 72 [.p (.str x0)] (.p (.bool r)) [] :=
  spec_of mix Try.func72 (body := bodyOf Try.f72) (by kernel_rfl) (by kernel_rfl) (cmp_isNaN_string.run h)
end Go.Proofs.YtjhnpaenhdbhpabV
set_option linter.unusedVariables false
set_option linter.unusedSimpArgs false
set_option maxRecDepth 100000
namespace Go.Proofs.YtjhnpaenhdbhpabV
open Go Go.RowKit
noncomputable def cmp_Compare_string  (k : Nat) (x0 : ByteArray) (y1 : ByteArray) : Option Int := (cmp_isNaN_string k x0).bind fun y_1 => ((cmp_isNaN_string k y1).bind fun y_3 => (if y_1 = true then (if y_3 = true then (some 0) else (some (-1))) else (if y_3 = true then (some 1) else (if (Op.bytesLess x0.data.toList y1.data.toList) = true then (some (-1)) else (if (!((Op.bytesLess x0.data.toList y1.data.toList) || (x0.data.toList == y1.data.toList))) = true then (some 1) else (some 0))))))
noncomputable def cmp_Compare_string.t : List Item := [.code (bodyOf Try.f61)]
noncomputable def cmp_Compare_string.s (x0 : ByteArray) (y1 : ByteArray) : St := ⟨frOf Try.f61.ntmps 0 [(0, .p (.str x0)), (1, .p (.str y1))], []⟩
theorem cmp_Compare_string.run   {k : Nat} {x0 : ByteArray} {y1 : ByteArray} {r : Int} (h : cmp_Compare_string k x0 y1 = some r) : RunC Try.prog Try.f61 cmp_Compare_string.t (cmp_Compare_string.s x0 y1) (.p (.int .i64 r)) [] := by
  unfold cmp_Compare_string at h
  obtain ⟨y_1, e_2, h⟩ := bind_or h
  obtain ⟨y_3, e_4, h⟩ := bind_or h
  rcases ite_or h with ⟨g_5, h⟩ | ⟨g_5, h⟩
  · rcases ite_or h with ⟨g_6, h⟩ | ⟨g_6, h⟩
    · obtain rfl := Option.some.inj h
      exact RunC.out [.n 3, .r [(1, .call (.p (.bool y_1)) [])], .n 1, .r [(1, .call (.p (.bool y_3)) [])], .n 2, .r [(0, .dec true)], .n 3, .r [(0, .dec true)], .n 3] (by kernel_rfl) (Obs.of (by kernel_rfl) (And.intro (cmp_isNaN_string.spec e_2) (And.intro (cmp_isNaN_string.spec e_4) (And.intro g_5 g_6))))
    · obtain rfl := Option.some.inj h
      exact RunC.out [.n 3, .r [(1, .call (.p (.bool y_1)) [])], .n 1, .r [(1, .call (.p (.bool y_3)) [])], .n 2, .r [(0, .dec true)], .n 3, .r [(0, .dec false)], .n 4] (by kernel_rfl) (Obs.of (by kernel_rfl) (And.intro (cmp_isNaN_string.spec e_2) (And.intro (cmp_isNaN_string.spec e_4) (And.intro g_5 (nt g_6)))))
  · rcases ite_or h with ⟨g_7, h⟩ | ⟨g_7, h⟩
    · obtain rfl := Option.some.inj h
      exact RunC.out [.n 3, .r [(1, .call (.p (.bool y_1)) [])], .n 1, .r [(1, .call (.p (.bool y_3)) [])], .n 2, .r [(0, .dec false)], .n 4, .r [(0, .dec true)], .n 3] (by kernel_rfl) (Obs.of (by kernel_rfl) (And.intro (cmp_isNaN_string.spec e_2) (And.intro (cmp_isNaN_string.spec e_4) (And.intro (nt g_5) g_7))))
    · rcases ite_or h with ⟨g_8, h⟩ | ⟨g_8, h⟩
      · obtain rfl := Option.some.inj h
        exact RunC.out [.n 3, .r [(1, .call (.p (.bool y_1)) [])], .n 1, .r [(1, .call (.p (.bool y_3)) [])], .n 2, .r [(0, .dec false)], .n 4, .r [(0, .dec false)], .n 4, .r [(2, .dec true)], .n 3] (by kernel_rfl) (Obs.of (by kernel_rfl) (And.intro (cmp_isNaN_string.spec e_2) (And.intro (cmp_isNaN_string.spec e_4) (And.intro (nt g_5) (And.intro (nt g_7) g_8)))))
      · rcases ite_or h with ⟨g_9, h⟩ | ⟨g_9, h⟩
        · obtain rfl := Option.some.inj h
          exact RunC.out [.n 3, .r [(1, .call (.p (.bool y_1)) [])], .n 1, .r [(1, .call (.p (.bool y_3)) [])], .n 2, .r [(0, .dec false)], .n 4, .r [(0, .dec false)], .n 4, .r [(2, .dec false)], .n 4, .r [(2, .dec true)], .n 3] (by kernel_rfl) (Obs.of (by kernel_rfl) (And.intro (cmp_isNaN_string.spec e_2) (And.intro (cmp_isNaN_string.spec e_4) (And.intro (nt g_5) (And.intro (nt g_7) (And.intro (nt g_8) g_9))))))
        · obtain rfl := Option.some.inj h
          exact RunC.out [.n 3, .r [(1, .call (.p (.bool y_1)) [])], .n 1, .r [(1, .call (.p (.bool y_3)) [])], .n 2, .r [(0, .dec false)], .n 4, .r [(0, .dec false)], .n 4, .r [(2, .dec false)], .n 4, .r [(2, .dec false)], .n 4] (by kernel_rfl) (Obs.of (by kernel_rfl) (And.intro (cmp_isNaN_string.spec e_2) (And.intro (cmp_isNaN_string.spec e_4) (And.intro (nt g_5) (And.intro (nt g_7) (And.intro (nt g_8) (nt g_9)))))))
theorem cmp_Compare_string.mono   : ∀ (k k' : Nat) (x0 : ByteArray) (y1 : ByteArray) (r : Int), k ≤ k' → cmp_Compare_string k x0 y1 = some r → cmp_Compare_string k' x0 y1 = some r := by
  intro k k' x0 y1 r hk h
  unfold cmp_Compare_string at h ⊢
  obtain ⟨y_1, e_2, h⟩ := bind_or h
  refine bnd (cmp_isNaN_string.mono _ _ _ _ hk e_2) ?_
  obtain ⟨y_3, e_4, h⟩ := bind_or h
  refine bnd (cmp_isNaN_string.mono _ _ _ _ hk e_4) ?_
  rcases ite_or h with ⟨g_5, h⟩ | ⟨g_5, h⟩
  · refine itp g_5 ?_
    rcases ite_or h with ⟨g_6, h⟩ | ⟨g_6, h⟩
    · refine itp g_6 ?_
      exact h
    · refine itn g_6 ?_
      exact h
  · refine itn g_5 ?_
    rcases ite_or h with ⟨g_7, h⟩ | ⟨g_7, h⟩
    · refine itp g_7 ?_
      exact h
    · refine itn g_7 ?_
      rcases ite_or h with ⟨g_8, h⟩ | ⟨g_8, h⟩
      · refine itp g_8 ?_
        exact h
      · refine itn g_8 ?_
        rcases ite_or h with ⟨g_9, h⟩ | ⟨g_9, h⟩
        · refine itp g_9 ?_
          exact h
        · refine itn g_9 ?_
          exact h
theorem cmp_Compare_string.spec {k : Nat} {x0 : ByteArray} {y1 : ByteArray} {r : Int} (h : cmp_Compare_string k x0 y1 = some r) : Spec Try.prog 61 [.p (.str x0), .p (.str y1)] (.p (.int .i64 r)) [] :=
  spec_of mix Try.func61 (body := bodyOf Try.f61) (by kernel_rfl) (by kernel_rfl) (cmp_Compare_string.run h)
end Go.Proofs.YtjhnpaenhdbhpabV
set_option linter.unusedVariables false
set_option linter.unusedSimpArgs false
set_option maxRecDepth 100000
namespace Go.Proofs.YtjhnpaenhdbhpabV
open Go Go.RowKit
noncomputable def value_Compare  (k : Nat) (a0 : TValue) (b1 : TValue) : Option Int := (value_Clean k a0).bind fun y_1 => ((value_Clean k b1).bind fun y_3 => (if (y_1.f0 != y_3.f0) = true then ((cmp_Compare_int k y_1.f0 y_3.f0).bind fun y_6 => (some y_6)) else (if (y_1.f0 == 1) = true then ((cmp_Compare_int64 k y_1.f1 y_3.f1).bind fun y_9 => (some y_9)) else ((cmp_Compare_string k y_1.f2 y_3.f2).bind fun y_11 => (some y_11)))))
noncomputable def value_Compare.t : List Item := [.code (bodyOf Try.f43)]
noncomputable def value_Compare.s (a0 : TValue) (b1 : TValue) : St := ⟨frOf Try.f43.ntmps 0 [(0, .agg ((cValue a0).map .p)), (1, .agg ((cValue b1).map .p))], []⟩
theorem value_Compare.run   {k : Nat} {a0 : TValue} {b1 : TValue} {r : Int} (h : value_Compare k a0 b1 = some r) : RunC Try.prog Try.f43 value_Compare.t (value_Compare.s a0 b1) (.p (.int .i64 r)) [] := by
  unfold value_Compare at h
  obtain ⟨y_1, e_2, h⟩ := bind_or h
  obtain ⟨y_3, e_4, h⟩ := bind_or h
  rcases ite_or h with ⟨g_5, h⟩ | ⟨g_5, h⟩
  · obtain ⟨y_6, e_7, h⟩ := bind_or h
    obtain rfl := Option.some.inj h
    exact RunC.out [.n 3, .r [(1, .call (.agg ((cValue y_1).map .p)) []), (3, .call (.agg ((cValue y_3).map .p)) [])], .n 2, .r [(4, .dec true)], .n 2, .r [(4, .call (.p (.int .i64 y_6)) [])]] (by kernel_rfl) (Obs.of (by kernel_rfl) (And.intro (value_Clean.spec e_2) (And.intro (value_Clean.spec e_4) (And.intro g_5 (cmp_Compare_int.spec e_7)))))
  · rcases ite_or h with ⟨g_8, h⟩ | ⟨g_8, h⟩
    · obtain ⟨y_9, e_10, h⟩ := bind_or h
      obtain rfl := Option.some.inj h
      exact RunC.out [.n 3, .r [(1, .call (.agg ((cValue y_1).map .p)) []), (3, .call (.agg ((cValue y_3).map .p)) [])], .n 2, .r [(4, .dec false)], .n 4, .r [(2, .dec true)], .n 2, .r [(4, .call (.p (.int .i64 y_9)) [])]] (by kernel_rfl) (Obs.of (by kernel_rfl) (And.intro (value_Clean.spec e_2) (And.intro (value_Clean.spec e_4) (And.intro (nt g_5) (And.intro g_8 (cmp_Compare_int64.spec e_10))))))
    · obtain ⟨y_11, e_12, h⟩ := bind_or h
      obtain rfl := Option.some.inj h
      exact RunC.out [.n 3, .r [(1, .call (.agg ((cValue y_1).map .p)) []), (3, .call (.agg ((cValue y_3).map .p)) [])], .n 2, .r [(4, .dec false)], .n 4, .r [(2, .dec false)], .n 3, .r [(4, .call (.p (.int .i64 y_11)) [])]] (by kernel_rfl) (Obs.of (by kernel_rfl) (And.intro (value_Clean.spec e_2) (And.intro (value_Clean.spec e_4) (And.intro (nt g_5) (And.intro (nt g_8) (cmp_Compare_string.spec e_12))))))
theorem value_Compare.mono   : ∀ (k k' : Nat) (a0 : TValue) (b1 : TValue) (r : Int), k ≤ k' → value_Compare k a0 b1 = some r → value_Compare k' a0 b1 = some r := by
  intro k k' a0 b1 r hk h
  unfold value_Compare at h ⊢
  obtain ⟨y_1, e_2, h⟩ := bind_or h
  refine bnd (value_Clean.mono _ _ _ _ hk e_2) ?_
  obtain ⟨y_3, e_4, h⟩ := bind_or h
  refine bnd (value_Clean.mono _ _ _ _ hk e_4) ?_
  rcases ite_or h with ⟨g_5, h⟩ | ⟨g_5, h⟩
  · refine itp g_5 ?_
    obtain ⟨y_6, e_7, h⟩ := bind_or h
    refine bnd (cmp_Compare_int.mono _ _ _ _ _ hk e_7) ?_
    exact h
  · refine itn g_5 ?_
    rcases ite_or h with ⟨g_8, h⟩ | ⟨g_8, h⟩
    · refine itp g_8 ?_
      obtain ⟨y_9, e_10, h⟩ := bind_or h
      refine bnd (cmp_Compare_int64.mono _ _ _ _ _ hk e_10) ?_
      exact h
    · refine itn g_8 ?_
      obtain ⟨y_11, e_12, h⟩ := bind_or h
      refine bnd (cmp_Compare_string.mono _ _ _ _ _ hk e_12) ?_
      exact h
theorem value_Compare.spec {k : Nat} {a0 : TValue} {b1 : TValue} {r : Int} (h : value_Compare k a0 b1 = some r) : Spec Try.prog 43 [.agg ((cValue a0).map .p), .agg ((cValue b1).map .p)] (.p (.int .i64 r)) [] :=
  spec_of mix Try.func43 (body := bodyOf Try.f43) (by kernel_rfl) (by kernel_rfl) (value_Compare.run h)
end Go.Proofs.YtjhnpaenhdbhpabV
set_option linter.unusedVariables false
set_option linter.unusedSimpArgs false
set_option maxRecDepth 100000
namespace Go.Proofs.YtjhnpaenhdbhpabV
open Go Go.RowKit
noncomputable def value_ValidRow.p1  : Nat → (List TValue) → (List TValue) → Int → Int → Option Bool
  | 0, _, _, _, _ => none
  | k + 1, r0, v5, v6, v7 => if (decide (v7 < v6)) = true then (if 0 ≤ v7 ∧ v7 < ((v5).length : Int) then ((value_Valid k (v5.getD v7.toNat dValue)).bind fun y_3 => (if (!y_3) = true then (some false) else (value_ValidRow.p1 k r0 v5 v6 (IntKind.i64.wrap (v7 + 1))))) else none) else (some (decide (((r0).length : Int) ≤ 16)))
noncomputable def value_ValidRow  (k : Nat) (r0 : (List TValue)) : Option Bool := value_ValidRow.p1 k r0 r0 ((r0).length : Int) 0
noncomputable def value_ValidRow.t : List Item := [.code (bodyOf Try.f73)]
noncomputable def value_ValidRow.s (r0 : (List TValue)) : St := ⟨frOf Try.f73.ntmps 0 [(0, .p (eL 3 cValue dValue r0))], []⟩
noncomputable def value_ValidRow.p1.t : List Item := nav 7 [] value_ValidRow.t
noncomputable def value_ValidRow.p1.s (r0 : (List TValue)) (v5 : (List TValue)) (v6 : Int) (v7 : Int) : St := ⟨frOf Try.f73.ntmps 0 [(0, .p (eL 3 cValue dValue r0)), (5, .p (eL 3 cValue dValue v5)), (6, .p (.int .i64 v6)), (7, .p (.int .i64 v7))], []⟩
theorem value_ValidRow.p1.run   : ∀ (k : Nat) (r0 : (List TValue)) (v5 : (List TValue)) (v6 : Int) (v7 : Int) (r : Bool), value_ValidRow.p1 k r0 v5 v6 v7 = some r → RunC Try.prog Try.f73 value_ValidRow.p1.t (value_ValidRow.p1.s r0 v5 v6 v7) (.p (.bool r)) [] := by
  intro k
  induction k with
  | zero => intro r0 v5 v6 v7 r h; simp [value_ValidRow.p1] at h
  | succ k ih =>
    intro r0 v5 v6 v7 r h
    rw [value_ValidRow.p1] at h
    rcases ite_or h with ⟨g_1, h⟩ | ⟨g_1, h⟩
    · obtain ⟨g_2, h⟩ := ite_some h
      obtain ⟨y_3, e_4, h⟩ := bind_or h
      rcases ite_or h with ⟨g_5, h⟩ | ⟨g_5, h⟩
      · obtain rfl := Option.some.inj h
        exact RunC.out [.n 1, .r [(0, .dec true)], .n 8, .r [(1, .call (.p (.bool y_3)) []), (2, .dec true)], .n 3] (by kernel_rfl) (Obs.of (by kernel_rfl) (And.intro g_1 (And.intro g_2 (And.intro (value_Valid.spec e_4) g_5))))
      · exact RunC.go [.n 1, .r [(0, .dec true)], .n 8, .r [(1, .call (.p (.bool y_3)) []), (2, .dec false)], .n 5, .k [0, 5, 6, 7]] (by kernel_rfl) (Obs.of (by kernel_rfl) (And.intro g_1 (And.intro g_2 (And.intro (value_Valid.spec e_4) (nt g_5))))) (ih _ _ _ _ r h)
    · obtain rfl := Option.some.inj h
      exact RunC.out [.n 1, .r [(0, .dec false)], .n 5] (by kernel_rfl) (Obs.of (by kernel_rfl) (nt g_1))
theorem value_ValidRow.run   {k : Nat} {r0 : (List TValue)} {r : Bool} (h : value_ValidRow k r0 = some r) : RunC Try.prog Try.f73 value_ValidRow.t (value_ValidRow.s r0) (.p (.bool r)) [] := by
  unfold value_ValidRow at h
  exact RunC.go [.n 7, .k [0, 5, 6, 7]] (by kernel_rfl) (Obs.tt (by kernel_rfl)) (value_ValidRow.p1.run k _ _ _ _ r h)
theorem value_ValidRow.p1.mono   : ∀ (k k' : Nat) (r0 : (List TValue)) (v5 : (List TValue)) (v6 : Int) (v7 : Int) (r : Bool), k ≤ k' → value_ValidRow.p1 k r0 v5 v6 v7 = some r → value_ValidRow.p1 k' r0 v5 v6 v7 = some r := by
  intro k
  induction k with
  | zero => intro k' r0 v5 v6 v7 r hk h; simp [value_ValidRow.p1] at h
  | succ k ih =>
    intro k' r0 v5 v6 v7 r hk h
    obtain ⟨k', rfl⟩ : ∃ m, k' = m + 1 := ⟨k' - 1, by omega⟩
    replace hk := Nat.le_of_succ_le_succ hk
    rw [value_ValidRow.p1] at h ⊢
    rcases ite_or h with ⟨g_1, h⟩ | ⟨g_1, h⟩
    · refine itp g_1 ?_
      obtain ⟨g_2, h⟩ := ite_some h
      refine itp g_2 ?_
      obtain ⟨y_3, e_4, h⟩ := bind_or h
      refine bnd (value_Valid.mono _ _ _ _ hk e_4) ?_
      rcases ite_or h with ⟨g_5, h⟩ | ⟨g_5, h⟩
      · refine itp g_5 ?_
        exact h
      · refine itn g_5 ?_
        exact ih _ _ _ _ _ r hk h
    · refine itn g_1 ?_
      exact h
theorem value_ValidRow.mono   : ∀ (k k' : Nat) (r0 : (List TValue)) (r : Bool), k ≤ k' → value_ValidRow k r0 = some r → value_ValidRow k' r0 = some r := by
  intro k k' r0 r hk h
  unfold value_ValidRow at h ⊢
  exact value_ValidRow.p1.mono _ _ _ _ _ _ r hk h
theorem value_ValidRow.spec {k : Nat} {r0 : (List TValue)} {r : Bool} (h : value_ValidRow k r0 = some r) : Spec Try.prog 73 [.p (eL 3 cValue dValue r0)] (.p (.bool r)) [] :=
  spec_of mix Try.func73 (body := bodyOf Try.f73) (by kernel_rfl) (by kernel_rfl) (value_ValidRow.run h)
end Go.Proofs.YtjhnpaenhdbhpabV
set_option linter.unusedVariables false
set_option linter.unusedSimpArgs false
set_option maxRecDepth 100000
namespace Go.Proofs.YtjhnpaenhdbhpabV
open Go Go.RowKit
noncomputable def bag_countFits  (k : Nat) (n0 : Int) : Option Bool := if (decide (n0 ≥ (-262144))) = true then (some (decide (n0 ≤ 262144))) else (some false)
noncomputable def bag_countFits.t : List Item := [.code (bodyOf Try.f74)]
noncomputable def bag_countFits.s (n0 : Int) : St := ⟨frOf Try.f74.ntmps 0 [(0, .p (.int .i64 n0))], []⟩
theorem bag_countFits.run   {k : Nat} {n0 : Int} {r : Bool} (h : bag_countFits k n0 = some r) : RunC Try.prog Try.f74 bag_countFits.t (bag_countFits.s n0) (.p (.bool r)) [] := by
  unfold bag_countFits at h
  rcases ite_or h with ⟨g_1, h⟩ | ⟨g_1, h⟩
  · obtain rfl := Option.some.inj h
    exact RunC.out [.n 3, .r [(2, .dec true)]] (by kernel_rfl) (Obs.of (by kernel_rfl) g_1)
  · obtain rfl := Option.some.inj h
    exact RunC.out [.n 3, .r [(2, .dec false)]] (by kernel_rfl) (Obs.of (by kernel_rfl) (nt g_1))
theorem bag_countFits.mono   : ∀ (k k' : Nat) (n0 : Int) (r : Bool), k ≤ k' → bag_countFits k n0 = some r → bag_countFits k' n0 = some r := by
  intro k k' n0 r hk h
  unfold bag_countFits at h ⊢
  rcases ite_or h with ⟨g_1, h⟩ | ⟨g_1, h⟩
  · refine itp g_1 ?_
    exact h
  · refine itn g_1 ?_
    exact h
theorem bag_countFits.spec {k : Nat} {n0 : Int} {r : Bool} (h : bag_countFits k n0 = some r) : Spec Try.prog 74 [.p (.int .i64 n0)] (.p (.bool r)) [] :=
  spec_of mix Try.func74 (body := bodyOf Try.f74) (by kernel_rfl) (by kernel_rfl) (bag_countFits.run h)
end Go.Proofs.YtjhnpaenhdbhpabV
set_option linter.unusedVariables false
set_option linter.unusedSimpArgs false
set_option maxRecDepth 100000
namespace Go.Proofs.YtjhnpaenhdbhpabV
open Go Go.RowKit
noncomputable def bag_entryFits  (k : Nat) (e0 : TEntry) : Option Bool := (value_ValidRow k e0.f0).bind fun y_1 => (if y_1 = true then ((bag_countFits k e0.f1).bind fun y_4 => (some y_4)) else (some false))
noncomputable def bag_entryFits.t : List Item := [.code (bodyOf Try.f64)]
noncomputable def bag_entryFits.s (e0 : TEntry) : St := ⟨frOf Try.f64.ntmps 0 [(0, .agg ((cEntry e0).map .p))], []⟩
theorem bag_entryFits.run   {k : Nat} {e0 : TEntry} {r : Bool} (h : bag_entryFits k e0 = some r) : RunC Try.prog Try.f64 bag_entryFits.t (bag_entryFits.s e0) (.p (.bool r)) [] := by
  unfold bag_entryFits at h
  obtain ⟨y_1, e_2, h⟩ := bind_or h
  rcases ite_or h with ⟨g_3, h⟩ | ⟨g_3, h⟩
  · obtain ⟨y_4, e_5, h⟩ := bind_or h
    obtain rfl := Option.some.inj h
    exact RunC.out [.n 3, .r [(2, .call (.p (.bool y_1)) []), (3, .dec true), (6, .call (.p (.bool y_4)) [])]] (by kernel_rfl) (Obs.of (by kernel_rfl) (And.intro (value_ValidRow.spec e_2) (And.intro g_3 (bag_countFits.spec e_5))))
  · obtain rfl := Option.some.inj h
    exact RunC.out [.n 3, .r [(2, .call (.p (.bool y_1)) []), (3, .dec false)]] (by kernel_rfl) (Obs.of (by kernel_rfl) (And.intro (value_ValidRow.spec e_2) (nt g_3)))
theorem bag_entryFits.mono   : ∀ (k k' : Nat) (e0 : TEntry) (r : Bool), k ≤ k' → bag_entryFits k e0 = some r → bag_entryFits k' e0 = some r := by
  intro k k' e0 r hk h
  unfold bag_entryFits at h ⊢
  obtain ⟨y_1, e_2, h⟩ := bind_or h
  refine bnd (value_ValidRow.mono _ _ _ _ hk e_2) ?_
  rcases ite_or h with ⟨g_3, h⟩ | ⟨g_3, h⟩
  · refine itp g_3 ?_
    obtain ⟨y_4, e_5, h⟩ := bind_or h
    refine bnd (bag_countFits.mono _ _ _ _ hk e_5) ?_
    exact h
  · refine itn g_3 ?_
    exact h
theorem bag_entryFits.spec {k : Nat} {e0 : TEntry} {r : Bool} (h : bag_entryFits k e0 = some r) : Spec Try.prog 64 [.agg ((cEntry e0).map .p)] (.p (.bool r)) [] :=
  spec_of mix Try.func64 (body := bodyOf Try.f64) (by kernel_rfl) (by kernel_rfl) (bag_entryFits.run h)
end Go.Proofs.YtjhnpaenhdbhpabV
set_option linter.unusedVariables false
set_option linter.unusedSimpArgs false
set_option maxRecDepth 100000
namespace Go.Proofs.YtjhnpaenhdbhpabV
open Go Go.RowKit
noncomputable def slices_CompareFunc_api_Value__value_Compare.p1  : Nat → (List TValue) → (List TValue) → (List TValue) → Int → Int → Option Int
  | 0, _, _, _, _, _ => none
  | k + 1, s10, s21, v11, v12, v13 => if (decide (v13 < v12)) = true then (if 0 ≤ v13 ∧ v13 < ((v11).length : Int) then (if (decide (v13 ≥ ((s21).length : Int))) = true then (some 1) else (if 0 ≤ v13 ∧ v13 < ((s21).length : Int) then ((value_Compare k (v11.getD v13.toNat dValue) (s21.getD v13.toNat dValue)).bind fun y_5 => (if (y_5 != 0) = true then (some y_5) else (slices_CompareFunc_api_Value__value_Compare.p1 k s10 s21 v11 v12 (IntKind.i64.wrap (v13 + 1))))) else none)) else none) else (if (decide (((s10).length : Int) < ((s21).length : Int))) = true then (some (-1)) else (some 0))
noncomputable def slices_CompareFunc_api_Value__value_Compare  (k : Nat) (s10 : (List TValue)) (s21 : (List TValue)) : Option Int := slices_CompareFunc_api_Value__value_Compare.p1 k s10 s21 s10 ((s10).length : Int) 0
noncomputable def slices_CompareFunc_api_Value__value_Compare.t : List Item := [.code (bodyOf Try.f75)]
noncomputable def slices_CompareFunc_api_Value__value_Compare.s (s10 : (List TValue)) (s21 : (List TValue)) : St := ⟨frOf Try.f75.ntmps 0 [(0, .p (eL 3 cValue dValue s10)), (1, .p (eL 3 cValue dValue s21)), (2, .fn 43 [])], []⟩
noncomputable def slices_CompareFunc_api_Value__value_Compare.p1.t : List Item := nav 7 [] slices_CompareFunc_api_Value__value_Compare.t
noncomputable def slices_CompareFunc_api_Value__value_Compare.p1.s (s10 : (List TValue)) (s21 : (List TValue)) (v11 : (List TValue)) (v12 : Int) (v13 : Int) : St := ⟨frOf Try.f75.ntmps 0 [(0, .p (eL 3 cValue dValue s10)), (1, .p (eL 3 cValue dValue s21)), (2, .fn 43 []), (11, .p (eL 3 cValue dValue v11)), (12, .p (.int .i64 v12)), (13, .p (.int .i64 v13))], []⟩
theorem slices_CompareFunc_api_Value__value_Compare.p1.run   : ∀ (k : Nat) (s10 : (List TValue)) (s21 : (List TValue)) (v11 : (List TValue)) (v12 : Int) (v13 : Int) (r : Int), slices_CompareFunc_api_Value__value_Compare.p1 k s10 s21 v11 v12 v13 = some r → RunC Try.prog Try.f75 slices_CompareFunc_api_Value__value_Compare.p1.t (slices_CompareFunc_api_Value__value_Compare.p1.s s10 s21 v11 v12 v13) (.p (.int .i64 r)) [] := by
  intro k
  induction k with
  | zero => intro s10 s21 v11 v12 v13 r h; simp [slices_CompareFunc_api_Value__value_Compare.p1] at h
  | succ k ih =>
    intro s10 s21 v11 v12 v13 r h
    rw [slices_CompareFunc_api_Value__value_Compare.p1] at h
    rcases ite_or h with ⟨g_1, h⟩ | ⟨g_1, h⟩
    · obtain ⟨g_2, h⟩ := ite_some h
      rcases ite_or h with ⟨g_3, h⟩ | ⟨g_3, h⟩
      · obtain rfl := Option.some.inj h
        exact RunC.out [.n 1, .r [(0, .dec true)], .n 9, .r [(3, .dec true)], .n 3] (by kernel_rfl) (Obs.of (by kernel_rfl) (And.intro g_1 (And.intro g_2 g_3)))
      · obtain ⟨g_4, h⟩ := ite_some h
        obtain ⟨y_5, e_6, h⟩ := bind_or h
        rcases ite_or h with ⟨g_7, h⟩ | ⟨g_7, h⟩
        · obtain rfl := Option.some.inj h
          exact RunC.out [.n 1, .r [(0, .dec true)], .n 9, .r [(3, .dec false)], .n 5, .r [(3, .call (.p (.int .i64 y_5)) [])], .n 1, .r [(1, .dec true)], .n 3] (by kernel_rfl) (Obs.of (by kernel_rfl) (And.intro g_1 (And.intro g_2 (And.intro (nt g_3) (And.intro g_4 (And.intro (value_Compare.spec e_6) g_7))))))
        · exact RunC.go [.n 1, .r [(0, .dec true)], .n 9, .r [(3, .dec false)], .n 5, .r [(3, .call (.p (.int .i64 y_5)) [])], .n 1, .r [(1, .dec false)], .n 5, .k [0, 1, 2, 11, 12, 13]] (by kernel_rfl) (Obs.of (by kernel_rfl) (And.intro g_1 (And.intro g_2 (And.intro (nt g_3) (And.intro g_4 (And.intro (value_Compare.spec e_6) (nt g_7))))))) (ih _ _ _ _ _ r h)
    · rcases ite_or h with ⟨g_8, h⟩ | ⟨g_8, h⟩
      · obtain rfl := Option.some.inj h
        exact RunC.out [.n 1, .r [(0, .dec false)], .n 5, .r [(4, .dec true)], .n 3] (by kernel_rfl) (Obs.of (by kernel_rfl) (And.intro (nt g_1) g_8))
      · obtain rfl := Option.some.inj h
        exact RunC.out [.n 1, .r [(0, .dec false)], .n 5, .r [(4, .dec false)], .n 4] (by kernel_rfl) (Obs.of (by kernel_rfl) (And.intro (nt g_1) (nt g_8)))
theorem slices_CompareFunc_api_Value__value_Compare.run   {k : Nat} {s10 : (List TValue)} {s21 : (List TValue)} {r : Int} (h : slices_CompareFunc_api_Value__value_Compare k s10 s21 = some r) : RunC Try.prog Try.f75 slices_CompareFunc_api_Value__value_Compare.t (slices_CompareFunc_api_Value__value_Compare.s s10 s21) (.p (.int .i64 r)) [] := by
  unfold slices_CompareFunc_api_Value__value_Compare at h
  exact RunC.go [.n 7, .k [0, 1, 2, 11, 12, 13]] (by kernel_rfl) (Obs.tt (by kernel_rfl)) (slices_CompareFunc_api_Value__value_Compare.p1.run k _ _ _ _ _ r h)
theorem slices_CompareFunc_api_Value__value_Compare.p1.mono   : ∀ (k k' : Nat) (s10 : (List TValue)) (s21 : (List TValue)) (v11 : (List TValue)) (v12 : Int) (v13 : Int) (r : Int), k ≤ k' → slices_CompareFunc_api_Value__value_Compare.p1 k s10 s21 v11 v12 v13 = some r → slices_CompareFunc_api_Value__value_Compare.p1 k' s10 s21 v11 v12 v13 = some r := by
  intro k
  induction k with
  | zero => intro k' s10 s21 v11 v12 v13 r hk h; simp [slices_CompareFunc_api_Value__value_Compare.p1] at h
  | succ k ih =>
    intro k' s10 s21 v11 v12 v13 r hk h
    obtain ⟨k', rfl⟩ : ∃ m, k' = m + 1 := ⟨k' - 1, by omega⟩
    replace hk := Nat.le_of_succ_le_succ hk
    rw [slices_CompareFunc_api_Value__value_Compare.p1] at h ⊢
    rcases ite_or h with ⟨g_1, h⟩ | ⟨g_1, h⟩
    · refine itp g_1 ?_
      obtain ⟨g_2, h⟩ := ite_some h
      refine itp g_2 ?_
      rcases ite_or h with ⟨g_3, h⟩ | ⟨g_3, h⟩
      · refine itp g_3 ?_
        exact h
      · refine itn g_3 ?_
        obtain ⟨g_4, h⟩ := ite_some h
        refine itp g_4 ?_
        obtain ⟨y_5, e_6, h⟩ := bind_or h
        refine bnd (value_Compare.mono _ _ _ _ _ hk e_6) ?_
        rcases ite_or h with ⟨g_7, h⟩ | ⟨g_7, h⟩
        · refine itp g_7 ?_
          exact h
        · refine itn g_7 ?_
          exact ih _ _ _ _ _ _ r hk h
    · refine itn g_1 ?_
      rcases ite_or h with ⟨g_8, h⟩ | ⟨g_8, h⟩
      · refine itp g_8 ?_
        exact h
      · refine itn g_8 ?_
        exact h
theorem slices_CompareFunc_api_Value__value_Compare.mono   : ∀ (k k' : Nat) (s10 : (List TValue)) (s21 : (List TValue)) (r : Int), k ≤ k' → slices_CompareFunc_api_Value__value_Compare k s10 s21 = some r → slices_CompareFunc_api_Value__value_Compare k' s10 s21 = some r := by
  intro k k' s10 s21 r hk h
  unfold slices_CompareFunc_api_Value__value_Compare at h ⊢
  exact slices_CompareFunc_api_Value__value_Compare.p1.mono _ _ _ _ _ _ _ r hk h
theorem slices_CompareFunc_api_Value__value_Compare.spec {k : Nat} {s10 : (List TValue)} {s21 : (List TValue)} {r : Int} (h : slices_CompareFunc_api_Value__value_Compare k s10 s21 = some r) : Spec Try.prog 75 [.p (eL 3 cValue dValue s10), .p (eL 3 cValue dValue s21), .fn 43 []] (.p (.int .i64 r)) [] :=
  spec_of mix Try.func75 (body := bodyOf Try.f75) (by kernel_rfl) (by kernel_rfl) (slices_CompareFunc_api_Value__value_Compare.run h)
end Go.Proofs.YtjhnpaenhdbhpabV
set_option linter.unusedVariables false
set_option linter.unusedSimpArgs false
set_option maxRecDepth 100000
namespace Go.Proofs.YtjhnpaenhdbhpabV
open Go Go.RowKit
noncomputable def value_CompareRows  (k : Nat) (a0 : (List TValue)) (b1 : (List TValue)) : Option Int := (slices_CompareFunc_api_Value__value_Compare k a0 b1).bind fun y_1 => (some y_1)
noncomputable def value_CompareRows.t : List Item := [.code (bodyOf Try.f65)]
noncomputable def value_CompareRows.s (a0 : (List TValue)) (b1 : (List TValue)) : St := ⟨frOf Try.f65.ntmps 0 [(0, .p (eL 3 cValue dValue a0)), (1, .p (eL 3 cValue dValue b1))], []⟩
theorem value_CompareRows.run   {k : Nat} {a0 : (List TValue)} {b1 : (List TValue)} {r : Int} (h : value_CompareRows k a0 b1 = some r) : RunC Try.prog Try.f65 value_CompareRows.t (value_CompareRows.s a0 b1) (.p (.int .i64 r)) [] := by
  unfold value_CompareRows at h
  obtain ⟨y_1, e_2, h⟩ := bind_or h
  obtain rfl := Option.some.inj h
  exact RunC.out [.n 3, .r [(2, .call (.p (.int .i64 y_1)) [])]] (by kernel_rfl) (Obs.of (by kernel_rfl) (slices_CompareFunc_api_Value__value_Compare.spec e_2))
theorem value_CompareRows.mono   : ∀ (k k' : Nat) (a0 : (List TValue)) (b1 : (List TValue)) (r : Int), k ≤ k' → value_CompareRows k a0 b1 = some r → value_CompareRows k' a0 b1 = some r := by
  intro k k' a0 b1 r hk h
  unfold value_CompareRows at h ⊢
  obtain ⟨y_1, e_2, h⟩ := bind_or h
  refine bnd (slices_CompareFunc_api_Value__value_Compare.mono _ _ _ _ _ hk e_2) ?_
  exact h
theorem value_CompareRows.spec {k : Nat} {a0 : (List TValue)} {b1 : (List TValue)} {r : Int} (h : value_CompareRows k a0 b1 = some r) : Spec Try.prog 65 [.p (eL 3 cValue dValue a0), .p (eL 3 cValue dValue b1)] (.p (.int .i64 r)) [] :=
  spec_of mix Try.func65 (body := bodyOf Try.f65) (by kernel_rfl) (by kernel_rfl) (value_CompareRows.run h)
end Go.Proofs.YtjhnpaenhdbhpabV
set_option linter.unusedVariables false
set_option linter.unusedSimpArgs false
set_option maxRecDepth 100000
namespace Go.Proofs.YtjhnpaenhdbhpabV
open Go Go.RowKit
noncomputable def bag_Valid.p1  : Nat → (List TEntry) → (List TEntry) → Int → Int → Option Bool
  | 0, _, _, _, _ => none
  | k + 1, b0, v5, v6, v7 => if (decide (v7 < v6)) = true then (if 0 ≤ v7 ∧ v7 < ((v5).length : Int) then ((bag_entryFits k (v5.getD v7.toNat dEntry)).bind fun y_3 => (if (!y_3) = true then (some false) else (if ((v5.getD v7.toNat dEntry).f1 == 0) = true then (some false) else (if (decide (v7 > 0)) = true then (if 0 ≤ (IntKind.i64.wrap (v7 - 1)) ∧ (IntKind.i64.wrap (v7 - 1)) < ((b0).length : Int) then ((value_CompareRows k ((b0.getD (IntKind.i64.wrap (v7 - 1)).toNat dEntry).f0) ((v5.getD v7.toNat dEntry).f0)).bind fun y_9 => (if (decide (y_9 ≥ 0)) = true then (some false) else (bag_Valid.p1 k b0 v5 v6 (IntKind.i64.wrap (v7 + 1))))) else none) else (bag_Valid.p1 k b0 v5 v6 (IntKind.i64.wrap (v7 + 1))))))) else none) else (some (decide (((b0).length : Int) ≤ 4096)))
noncomputable def bag_Valid  (k : Nat) (b0 : (List TEntry)) : Option Bool := bag_Valid.p1 k b0 b0 ((b0).length : Int) 0
noncomputable def bag_Valid.t : List Item := [.code (bodyOf Try.f51)]
noncomputable def bag_Valid.s (b0 : (List TEntry)) : St := ⟨frOf Try.f51.ntmps 0 [(0, .p (eL 2 cEntry dEntry b0))], []⟩
noncomputable def bag_Valid.p1.t : List Item := nav 7 [] bag_Valid.t
noncomputable def bag_Valid.p1.s (b0 : (List TEntry)) (v5 : (List TEntry)) (v6 : Int) (v7 : Int) : St := ⟨frOf Try.f51.ntmps 0 [(0, .p (eL 2 cEntry dEntry b0)), (5, .p (eL 2 cEntry dEntry v5)), (6, .p (.int .i64 v6)), (7, .p (.int .i64 v7))], []⟩
theorem bag_Valid.p1.run   : ∀ (k : Nat) (b0 : (List TEntry)) (v5 : (List TEntry)) (v6 : Int) (v7 : Int) (r : Bool), bag_Valid.p1 k b0 v5 v6 v7 = some r → RunC Try.prog Try.f51 bag_Valid.p1.t (bag_Valid.p1.s b0 v5 v6 v7) (.p (.bool r)) [] := by
  intro k
  induction k with
  | zero => intro b0 v5 v6 v7 r h; simp [bag_Valid.p1] at h
  | succ k ih =>
    intro b0 v5 v6 v7 r h
    rw [bag_Valid.p1] at h
    rcases ite_or h with ⟨g_1, h⟩ | ⟨g_1, h⟩
    · obtain ⟨g_2, h⟩ := ite_some h
      obtain ⟨y_3, e_4, h⟩ := bind_or h
      rcases ite_or h with ⟨g_5, h⟩ | ⟨g_5, h⟩
      · obtain rfl := Option.some.inj h
        exact RunC.out [.n 1, .r [(0, .dec true)], .n 8, .r [(1, .call (.p (.bool y_3)) []), (3, .dec true)], .n 3] (by kernel_rfl) (Obs.of (by kernel_rfl) (And.intro g_1 (And.intro g_2 (And.intro (bag_entryFits.spec e_4) g_5))))
      · rcases ite_or h with ⟨g_6, h⟩ | ⟨g_6, h⟩
        · obtain rfl := Option.some.inj h
          exact RunC.out [.n 1, .r [(0, .dec true)], .n 8, .r [(1, .call (.p (.bool y_3)) []), (3, .dec false), (8, .dec true)], .n 3] (by kernel_rfl) (Obs.of (by kernel_rfl) (And.intro g_1 (And.intro g_2 (And.intro (bag_entryFits.spec e_4) (And.intro (nt g_5) g_6)))))
        · rcases ite_or h with ⟨g_7, h⟩ | ⟨g_7, h⟩
          · obtain ⟨g_8, h⟩ := ite_some h
            obtain ⟨y_9, e_10, h⟩ := bind_or h
            rcases ite_or h with ⟨g_11, h⟩ | ⟨g_11, h⟩
            · obtain rfl := Option.some.inj h
              exact RunC.out [.n 1, .r [(0, .dec true)], .n 8, .r [(1, .call (.p (.bool y_3)) []), (3, .dec false), (8, .dec false), (11, .dec true), (20, .call (.p (.int .i64 y_9)) []), (23, .dec true)], .n 3] (by kernel_rfl) (Obs.of (by kernel_rfl) (And.intro g_1 (And.intro g_2 (And.intro (bag_entryFits.spec e_4) (And.intro (nt g_5) (And.intro (nt g_6) (And.intro g_7 (And.intro g_8 (And.intro (value_CompareRows.spec e_10) g_11)))))))))
            · exact RunC.go [.n 1, .r [(0, .dec true)], .n 8, .r [(1, .call (.p (.bool y_3)) []), (3, .dec false), (8, .dec false), (11, .dec true), (20, .call (.p (.int .i64 y_9)) []), (23, .dec false)], .n 5, .k [0, 5, 6, 7]] (by kernel_rfl) (Obs.of (by kernel_rfl) (And.intro g_1 (And.intro g_2 (And.intro (bag_entryFits.spec e_4) (And.intro (nt g_5) (And.intro (nt g_6) (And.intro g_7 (And.intro g_8 (And.intro (value_CompareRows.spec e_10) (nt g_11)))))))))) (ih _ _ _ _ r h)
          · exact RunC.go [.n 1, .r [(0, .dec true)], .n 8, .r [(1, .call (.p (.bool y_3)) []), (3, .dec false), (8, .dec false), (11, .dec false)], .n 5, .k [0, 5, 6, 7]] (by kernel_rfl) (Obs.of (by kernel_rfl) (And.intro g_1 (And.intro g_2 (And.intro (bag_entryFits.spec e_4) (And.intro (nt g_5) (And.intro (nt g_6) (nt g_7))))))) (ih _ _ _ _ r h)
    · obtain rfl := Option.some.inj h
      exact RunC.out [.n 1, .r [(0, .dec false)], .n 5] (by kernel_rfl) (Obs.of (by kernel_rfl) (nt g_1))
theorem bag_Valid.run   {k : Nat} {b0 : (List TEntry)} {r : Bool} (h : bag_Valid k b0 = some r) : RunC Try.prog Try.f51 bag_Valid.t (bag_Valid.s b0) (.p (.bool r)) [] := by
  unfold bag_Valid at h
  exact RunC.go [.n 7, .k [0, 5, 6, 7]] (by kernel_rfl) (Obs.tt (by kernel_rfl)) (bag_Valid.p1.run k _ _ _ _ r h)
theorem bag_Valid.p1.mono   : ∀ (k k' : Nat) (b0 : (List TEntry)) (v5 : (List TEntry)) (v6 : Int) (v7 : Int) (r : Bool), k ≤ k' → bag_Valid.p1 k b0 v5 v6 v7 = some r → bag_Valid.p1 k' b0 v5 v6 v7 = some r := by
  intro k
  induction k with
  | zero => intro k' b0 v5 v6 v7 r hk h; simp [bag_Valid.p1] at h
  | succ k ih =>
    intro k' b0 v5 v6 v7 r hk h
    obtain ⟨k', rfl⟩ : ∃ m, k' = m + 1 := ⟨k' - 1, by omega⟩
    replace hk := Nat.le_of_succ_le_succ hk
    rw [bag_Valid.p1] at h ⊢
    rcases ite_or h with ⟨g_1, h⟩ | ⟨g_1, h⟩
    · refine itp g_1 ?_
      obtain ⟨g_2, h⟩ := ite_some h
      refine itp g_2 ?_
      obtain ⟨y_3, e_4, h⟩ := bind_or h
      refine bnd (bag_entryFits.mono _ _ _ _ hk e_4) ?_
      rcases ite_or h with ⟨g_5, h⟩ | ⟨g_5, h⟩
      · refine itp g_5 ?_
        exact h
      · refine itn g_5 ?_
        rcases ite_or h with ⟨g_6, h⟩ | ⟨g_6, h⟩
        · refine itp g_6 ?_
          exact h
        · refine itn g_6 ?_
          rcases ite_or h with ⟨g_7, h⟩ | ⟨g_7, h⟩
          · refine itp g_7 ?_
            obtain ⟨g_8, h⟩ := ite_some h
            refine itp g_8 ?_
            obtain ⟨y_9, e_10, h⟩ := bind_or h
            refine bnd (value_CompareRows.mono _ _ _ _ _ hk e_10) ?_
            rcases ite_or h with ⟨g_11, h⟩ | ⟨g_11, h⟩
            · refine itp g_11 ?_
              exact h
            · refine itn g_11 ?_
              exact ih _ _ _ _ _ r hk h
          · refine itn g_7 ?_
            exact ih _ _ _ _ _ r hk h
    · refine itn g_1 ?_
      exact h
theorem bag_Valid.mono   : ∀ (k k' : Nat) (b0 : (List TEntry)) (r : Bool), k ≤ k' → bag_Valid k b0 = some r → bag_Valid k' b0 = some r := by
  intro k k' b0 r hk h
  unfold bag_Valid at h ⊢
  exact bag_Valid.p1.mono _ _ _ _ _ _ r hk h
theorem bag_Valid.spec {k : Nat} {b0 : (List TEntry)} {r : Bool} (h : bag_Valid k b0 = some r) : Spec Try.prog 51 [.p (eL 2 cEntry dEntry b0)] (.p (.bool r)) [] :=
  spec_of mix Try.func51 (body := bodyOf Try.f51) (by kernel_rfl) (by kernel_rfl) (bag_Valid.run h)
end Go.Proofs.YtjhnpaenhdbhpabV
set_option linter.unusedVariables false
set_option linter.unusedSimpArgs false
set_option maxRecDepth 100000
namespace Go.Proofs.YtjhnpaenhdbhpabV
open Go Go.RowKit
noncomputable def cache_inDays  (k : Nat) (n0 : Int) : Option Bool := if (decide (n0 ≥ 0)) = true then (some (decide (n0 ≤ 1048576))) else (some false)
noncomputable def cache_inDays.t : List Item := [.code (bodyOf Try.f49)]
noncomputable def cache_inDays.s (n0 : Int) : St := ⟨frOf Try.f49.ntmps 0 [(0, .p (.int .i64 n0))], []⟩
theorem cache_inDays.run   {k : Nat} {n0 : Int} {r : Bool} (h : cache_inDays k n0 = some r) : RunC Try.prog Try.f49 cache_inDays.t (cache_inDays.s n0) (.p (.bool r)) [] := by
  unfold cache_inDays at h
  rcases ite_or h with ⟨g_1, h⟩ | ⟨g_1, h⟩
  · obtain rfl := Option.some.inj h
    exact RunC.out [.n 3, .r [(2, .dec true)]] (by kernel_rfl) (Obs.of (by kernel_rfl) g_1)
  · obtain rfl := Option.some.inj h
    exact RunC.out [.n 3, .r [(2, .dec false)]] (by kernel_rfl) (Obs.of (by kernel_rfl) (nt g_1))
theorem cache_inDays.mono   : ∀ (k k' : Nat) (n0 : Int) (r : Bool), k ≤ k' → cache_inDays k n0 = some r → cache_inDays k' n0 = some r := by
  intro k k' n0 r hk h
  unfold cache_inDays at h ⊢
  rcases ite_or h with ⟨g_1, h⟩ | ⟨g_1, h⟩
  · refine itp g_1 ?_
    exact h
  · refine itn g_1 ?_
    exact h
theorem cache_inDays.spec {k : Nat} {n0 : Int} {r : Bool} (h : cache_inDays k n0 = some r) : Spec Try.prog 49 [.p (.int .i64 n0)] (.p (.bool r)) [] :=
  spec_of mix Try.func49 (body := bodyOf Try.f49) (by kernel_rfl) (by kernel_rfl) (cache_inDays.run h)
end Go.Proofs.YtjhnpaenhdbhpabV
set_option linter.unusedVariables false
set_option linter.unusedSimpArgs false
set_option maxRecDepth 100000
namespace Go.Proofs.YtjhnpaenhdbhpabV
open Go Go.RowKit
noncomputable def cache_Valid.p1  : Nat → (List TCached) → Int → Option Bool
  | 0, _, _ => none
  | k + 1, s0, i3 => if (decide (i3 < ((s0).length : Int))) = true then (if 0 ≤ i3 ∧ i3 < ((s0).length : Int) then ((value_Valid k ((s0.getD i3.toNat dCached).f0)).bind fun y_4 => (if (!y_4) = true then (some false) else (if (decide (i3 > 0)) = true then (if 0 ≤ (IntKind.i64.wrap (i3 - 1)) ∧ (IntKind.i64.wrap (i3 - 1)) < ((s0).length : Int) then ((value_Compare k ((s0.getD (IntKind.i64.wrap (i3 - 1)).toNat dCached).f0) ((s0.getD i3.toNat dCached).f0)).bind fun y_9 => (if (decide (y_9 ≥ 0)) = true then (some false) else ((bag_Valid k ((s0.getD i3.toNat dCached).f1)).bind fun y_12 => (if (!y_12) = true then (some false) else ((cache_inDays k ((s0.getD i3.toNat dCached).f2)).bind fun y_15 => (if (!y_15) = true then (some false) else (cache_Valid.p1 k s0 (IntKind.i64.wrap (i3 + 1))))))))) else none) else ((bag_Valid k ((s0.getD i3.toNat dCached).f1)).bind fun y_18 => (if (!y_18) = true then (some false) else ((cache_inDays k ((s0.getD i3.toNat dCached).f2)).bind fun y_21 => (if (!y_21) = true then (some false) else (cache_Valid.p1 k s0 (IntKind.i64.wrap (i3 + 1)))))))))) else none) else (some true)
noncomputable def cache_Valid  (k : Nat) (s0 : (List TCached)) : Option Bool := if (decide (((s0).length : Int) > 16)) = true then (some false) else (cache_Valid.p1 k s0 0)
noncomputable def cache_Valid.t : List Item := [.code (bodyOf Try.f27)]
noncomputable def cache_Valid.s (s0 : (List TCached)) : St := ⟨frOf Try.f27.ntmps 0 [(0, .p (eL 5 cCached dCached s0))], []⟩
noncomputable def cache_Valid.p1.t : List Item := nav 12 [false] cache_Valid.t
noncomputable def cache_Valid.p1.s (s0 : (List TCached)) (i3 : Int) : St := ⟨frOf Try.f27.ntmps 0 [(0, .p (eL 5 cCached dCached s0)), (3, .p (.int .i64 i3))], []⟩
theorem cache_Valid.p1.run   : ∀ (k : Nat) (s0 : (List TCached)) (i3 : Int) (r : Bool), cache_Valid.p1 k s0 i3 = some r → RunC Try.prog Try.f27 cache_Valid.p1.t (cache_Valid.p1.s s0 i3) (.p (.bool r)) [] := by
  intro k
  induction k with
  | zero => intro s0 i3 r h; simp [cache_Valid.p1] at h
  | succ k ih =>
    intro s0 i3 r h
    rw [cache_Valid.p1] at h
    rcases ite_or h with ⟨g_2, h⟩ | ⟨g_2, h⟩
    · obtain ⟨g_3, h⟩ := ite_some h
      obtain ⟨y_4, e_5, h⟩ := bind_or h
      rcases ite_or h with ⟨g_6, h⟩ | ⟨g_6, h⟩
      · obtain rfl := Option.some.inj h
        exact RunC.out [.n 2, .r [(3, .dec true)], .n 7, .r [(2, .call (.p (.bool y_4)) []), (4, .dec true)], .n 3] (by kernel_rfl) (Obs.of (by kernel_rfl) (And.intro g_2 (And.intro g_3 (And.intro (value_Valid.spec e_5) g_6))))
      · rcases ite_or h with ⟨g_7, h⟩ | ⟨g_7, h⟩
        · obtain ⟨g_8, h⟩ := ite_some h
          obtain ⟨y_9, e_10, h⟩ := bind_or h
          rcases ite_or h with ⟨g_11, h⟩ | ⟨g_11, h⟩
          · obtain rfl := Option.some.inj h
            exact RunC.out [.n 2, .r [(3, .dec true)], .n 7, .r [(2, .call (.p (.bool y_4)) []), (4, .dec false), (7, .dec true), (16, .call (.p (.int .i64 y_9)) []), (20, .dec true)], .n 3] (by kernel_rfl) (Obs.of (by kernel_rfl) (And.intro g_2 (And.intro g_3 (And.intro (value_Valid.spec e_5) (And.intro (nt g_6) (And.intro g_7 (And.intro g_8 (And.intro (value_Compare.spec e_10) g_11))))))))
          · obtain ⟨y_12, e_13, h⟩ := bind_or h
            rcases ite_or h with ⟨g_14, h⟩ | ⟨g_14, h⟩
            · obtain rfl := Option.some.inj h
              exact RunC.out [.n 2, .r [(3, .dec true)], .n 7, .r [(2, .call (.p (.bool y_4)) []), (4, .dec false), (7, .dec true), (16, .call (.p (.int .i64 y_9)) []), (20, .dec false), (23, .call (.p (.bool y_12)) []), (26, .dec true)], .n 3] (by kernel_rfl) (Obs.of (by kernel_rfl) (And.intro g_2 (And.intro g_3 (And.intro (value_Valid.spec e_5) (And.intro (nt g_6) (And.intro g_7 (And.intro g_8 (And.intro (value_Compare.spec e_10) (And.intro (nt g_11) (And.intro (bag_Valid.spec e_13) g_14))))))))))
            · obtain ⟨y_15, e_16, h⟩ := bind_or h
              rcases ite_or h with ⟨g_17, h⟩ | ⟨g_17, h⟩
              · obtain rfl := Option.some.inj h
                exact RunC.out [.n 2, .r [(3, .dec true)], .n 7, .r [(2, .call (.p (.bool y_4)) []), (4, .dec false), (7, .dec true), (16, .call (.p (.int .i64 y_9)) []), (20, .dec false), (23, .call (.p (.bool y_12)) []), (26, .dec false), (29, .call (.p (.bool y_15)) []), (31, .dec true)], .n 3] (by kernel_rfl) (Obs.of (by kernel_rfl) (And.intro g_2 (And.intro g_3 (And.intro (value_Valid.spec e_5) (And.intro (nt g_6) (And.intro g_7 (And.intro g_8 (And.intro (value_Compare.spec e_10) (And.intro (nt g_11) (And.intro (bag_Valid.spec e_13) (And.intro (nt g_14) (And.intro (cache_inDays.spec e_16) g_17))))))))))))
              · exact RunC.go [.n 2, .r [(3, .dec true)], .n 7, .r [(2, .call (.p (.bool y_4)) []), (4, .dec false), (7, .dec true), (16, .call (.p (.int .i64 y_9)) []), (20, .dec false), (23, .call (.p (.bool y_12)) []), (26, .dec false), (29, .call (.p (.bool y_15)) []), (31, .dec false)], .n 5, .k [0, 3]] (by kernel_rfl) (Obs.of (by kernel_rfl) (And.intro g_2 (And.intro g_3 (And.intro (value_Valid.spec e_5) (And.intro (nt g_6) (And.intro g_7 (And.intro g_8 (And.intro (value_Compare.spec e_10) (And.intro (nt g_11) (And.intro (bag_Valid.spec e_13) (And.intro (nt g_14) (And.intro (cache_inDays.spec e_16) (nt g_17))))))))))))) (ih _ _ r h)
        · obtain ⟨y_18, e_19, h⟩ := bind_or h
          rcases ite_or h with ⟨g_20, h⟩ | ⟨g_20, h⟩
          · obtain rfl := Option.some.inj h
            exact RunC.out [.n 2, .r [(3, .dec true)], .n 7, .r [(2, .call (.p (.bool y_4)) []), (4, .dec false), (7, .dec false), (23, .call (.p (.bool y_18)) []), (26, .dec true)], .n 3] (by kernel_rfl) (Obs.of (by kernel_rfl) (And.intro g_2 (And.intro g_3 (And.intro (value_Valid.spec e_5) (And.intro (nt g_6) (And.intro (nt g_7) (And.intro (bag_Valid.spec e_19) g_20)))))))
          · obtain ⟨y_21, e_22, h⟩ := bind_or h
            rcases ite_or h with ⟨g_23, h⟩ | ⟨g_23, h⟩
            · obtain rfl := Option.some.inj h
              exact RunC.out [.n 2, .r [(3, .dec true)], .n 7, .r [(2, .call (.p (.bool y_4)) []), (4, .dec false), (7, .dec false), (23, .call (.p (.bool y_18)) []), (26, .dec false), (29, .call (.p (.bool y_21)) []), (31, .dec true)], .n 3] (by kernel_rfl) (Obs.of (by kernel_rfl) (And.intro g_2 (And.intro g_3 (And.intro (value_Valid.spec e_5) (And.intro (nt g_6) (And.intro (nt g_7) (And.intro (bag_Valid.spec e_19) (And.intro (nt g_20) (And.intro (cache_inDays.spec e_22) g_23)))))))))
            · exact RunC.go [.n 2, .r [(3, .dec true)], .n 7, .r [(2, .call (.p (.bool y_4)) []), (4, .dec false), (7, .dec false), (23, .call (.p (.bool y_18)) []), (26, .dec false), (29, .call (.p (.bool y_21)) []), (31, .dec false)], .n 5, .k [0, 3]] (by kernel_rfl) (Obs.of (by kernel_rfl) (And.intro g_2 (And.intro g_3 (And.intro (value_Valid.spec e_5) (And.intro (nt g_6) (And.intro (nt g_7) (And.intro (bag_Valid.spec e_19) (And.intro (nt g_20) (And.intro (cache_inDays.spec e_22) (nt g_23)))))))))) (ih _ _ r h)
    · obtain rfl := Option.some.inj h
      exact RunC.out [.n 2, .r [(3, .dec false)], .n 4] (by kernel_rfl) (Obs.of (by kernel_rfl) (nt g_2))
theorem cache_Valid.run   {k : Nat} {s0 : (List TCached)} {r : Bool} (h : cache_Valid k s0 = some r) : RunC Try.prog Try.f27 cache_Valid.t (cache_Valid.s s0) (.p (.bool r)) [] := by
  unfold cache_Valid at h
  rcases ite_or h with ⟨g_1, h⟩ | ⟨g_1, h⟩
  · obtain rfl := Option.some.inj h
    exact RunC.out [.n 4, .r [(2, .dec true)], .n 3] (by kernel_rfl) (Obs.of (by kernel_rfl) g_1)
  · exact RunC.go [.n 4, .r [(2, .dec false)], .n 7, .k [0, 3]] (by kernel_rfl) (Obs.of (by kernel_rfl) (nt g_1)) (cache_Valid.p1.run k _ _ r h)
theorem cache_Valid.p1.mono   : ∀ (k k' : Nat) (s0 : (List TCached)) (i3 : Int) (r : Bool), k ≤ k' → cache_Valid.p1 k s0 i3 = some r → cache_Valid.p1 k' s0 i3 = some r := by
  intro k
  induction k with
  | zero => intro k' s0 i3 r hk h; simp [cache_Valid.p1] at h
  | succ k ih =>
    intro k' s0 i3 r hk h
    obtain ⟨k', rfl⟩ : ∃ m, k' = m + 1 := ⟨k' - 1, by omega⟩
    replace hk := Nat.le_of_succ_le_succ hk
    rw [cache_Valid.p1] at h ⊢
    rcases ite_or h with ⟨g_2, h⟩ | ⟨g_2, h⟩
    · refine itp g_2 ?_
      obtain ⟨g_3, h⟩ := ite_some h
      refine itp g_3 ?_
      obtain ⟨y_4, e_5, h⟩ := bind_or h
      refine bnd (value_Valid.mono _ _ _ _ hk e_5) ?_
      rcases ite_or h with ⟨g_6, h⟩ | ⟨g_6, h⟩
      · refine itp g_6 ?_
        exact h
      · refine itn g_6 ?_
        rcases ite_or h with ⟨g_7, h⟩ | ⟨g_7, h⟩
        · refine itp g_7 ?_
          obtain ⟨g_8, h⟩ := ite_some h
          refine itp g_8 ?_
          obtain ⟨y_9, e_10, h⟩ := bind_or h
          refine bnd (value_Compare.mono _ _ _ _ _ hk e_10) ?_
          rcases ite_or h with ⟨g_11, h⟩ | ⟨g_11, h⟩
          · refine itp g_11 ?_
            exact h
          · refine itn g_11 ?_
            obtain ⟨y_12, e_13, h⟩ := bind_or h
            refine bnd (bag_Valid.mono _ _ _ _ hk e_13) ?_
            rcases ite_or h with ⟨g_14, h⟩ | ⟨g_14, h⟩
            · refine itp g_14 ?_
              exact h
            · refine itn g_14 ?_
              obtain ⟨y_15, e_16, h⟩ := bind_or h
              refine bnd (cache_inDays.mono _ _ _ _ hk e_16) ?_
              rcases ite_or h with ⟨g_17, h⟩ | ⟨g_17, h⟩
              · refine itp g_17 ?_
                exact h
              · refine itn g_17 ?_
                exact ih _ _ _ r hk h
        · refine itn g_7 ?_
          obtain ⟨y_18, e_19, h⟩ := bind_or h
          refine bnd (bag_Valid.mono _ _ _ _ hk e_19) ?_
          rcases ite_or h with ⟨g_20, h⟩ | ⟨g_20, h⟩
          · refine itp g_20 ?_
            exact h
          · refine itn g_20 ?_
            obtain ⟨y_21, e_22, h⟩ := bind_or h
            refine bnd (cache_inDays.mono _ _ _ _ hk e_22) ?_
            rcases ite_or h with ⟨g_23, h⟩ | ⟨g_23, h⟩
            · refine itp g_23 ?_
              exact h
            · refine itn g_23 ?_
              exact ih _ _ _ r hk h
    · refine itn g_2 ?_
      exact h
theorem cache_Valid.mono   : ∀ (k k' : Nat) (s0 : (List TCached)) (r : Bool), k ≤ k' → cache_Valid k s0 = some r → cache_Valid k' s0 = some r := by
  intro k k' s0 r hk h
  unfold cache_Valid at h ⊢
  rcases ite_or h with ⟨g_1, h⟩ | ⟨g_1, h⟩
  · refine itp g_1 ?_
    exact h
  · refine itn g_1 ?_
    exact cache_Valid.p1.mono _ _ _ _ r hk h
theorem cache_Valid.spec {k : Nat} {s0 : (List TCached)} {r : Bool} (h : cache_Valid k s0 = some r) : Spec Try.prog 27 [.p (eL 5 cCached dCached s0)] (.p (.bool r)) [] :=
  spec_of mix Try.func27 (body := bodyOf Try.f27) (by kernel_rfl) (by kernel_rfl) (cache_Valid.run h)
end Go.Proofs.YtjhnpaenhdbhpabV
set_option linter.unusedVariables false
set_option linter.unusedSimpArgs false
set_option maxRecDepth 100000
namespace Go.Proofs.YtjhnpaenhdbhpabV
open Go Go.RowKit
noncomputable def cache_usable  (k : Nat) (c0 : TCache) (s1 : (List TCached)) (rows2 : (List TEntry)) (day3 : Int) : Option Bool := (cache_Valid k s1).bind fun y_1 => (if y_1 = true then ((bag_Valid k rows2).bind fun y_4 => (if y_4 = true then ((cache_inDays k c0.f3).bind fun y_7 => (if y_7 = true then ((cache_inDays k day3).bind fun y_10 => (some y_10)) else (some false))) else (some false))) else (some false))
noncomputable def cache_usable.t : List Item := [.code (bodyOf Try.f42)]
noncomputable def cache_usable.s (c0 : TCache) (s1 : (List TCached)) (rows2 : (List TEntry)) (day3 : Int) : St := ⟨frOf Try.f42.ntmps 0 [(0, .agg ((cCache c0).map .p)), (1, .p (eL 5 cCached dCached s1)), (2, .p (eL 2 cEntry dEntry rows2)), (3, .p (.int .i64 day3))], []⟩
theorem cache_usable.run   {k : Nat} {c0 : TCache} {s1 : (List TCached)} {rows2 : (List TEntry)} {day3 : Int} {r : Bool} (h : cache_usable k c0 s1 rows2 day3 = some r) : RunC Try.prog Try.f42 cache_usable.t (cache_usable.s c0 s1 rows2 day3) (.p (.bool r)) [] := by
  unfold cache_usable at h
  obtain ⟨y_1, e_2, h⟩ := bind_or h
  rcases ite_or h with ⟨g_3, h⟩ | ⟨g_3, h⟩
  · obtain ⟨y_4, e_5, h⟩ := bind_or h
    rcases ite_or h with ⟨g_6, h⟩ | ⟨g_6, h⟩
    · obtain ⟨y_7, e_8, h⟩ := bind_or h
      rcases ite_or h with ⟨g_9, h⟩ | ⟨g_9, h⟩
      · obtain ⟨y_10, e_11, h⟩ := bind_or h
        obtain rfl := Option.some.inj h
        exact RunC.out [.n 3, .r [(1, .call (.p (.bool y_1)) []), (2, .dec true), (4, .call (.p (.bool y_4)) []), (6, .dec true), (9, .call (.p (.bool y_7)) []), (11, .dec true), (13, .call (.p (.bool y_10)) [])]] (by kernel_rfl) (Obs.of (by kernel_rfl) (And.intro (cache_Valid.spec e_2) (And.intro g_3 (And.intro (bag_Valid.spec e_5) (And.intro g_6 (And.intro (cache_inDays.spec e_8) (And.intro g_9 (cache_inDays.spec e_11))))))))
      · obtain rfl := Option.some.inj h
        exact RunC.out [.n 3, .r [(1, .call (.p (.bool y_1)) []), (2, .dec true), (4, .call (.p (.bool y_4)) []), (6, .dec true), (9, .call (.p (.bool y_7)) []), (11, .dec false)]] (by kernel_rfl) (Obs.of (by kernel_rfl) (And.intro (cache_Valid.spec e_2) (And.intro g_3 (And.intro (bag_Valid.spec e_5) (And.intro g_6 (And.intro (cache_inDays.spec e_8) (nt g_9)))))))
    · obtain rfl := Option.some.inj h
      exact RunC.out [.n 3, .r [(1, .call (.p (.bool y_1)) []), (2, .dec true), (4, .call (.p (.bool y_4)) []), (6, .dec false)]] (by kernel_rfl) (Obs.of (by kernel_rfl) (And.intro (cache_Valid.spec e_2) (And.intro g_3 (And.intro (bag_Valid.spec e_5) (nt g_6)))))
  · obtain rfl := Option.some.inj h
    exact RunC.out [.n 3, .r [(1, .call (.p (.bool y_1)) []), (2, .dec false)]] (by kernel_rfl) (Obs.of (by kernel_rfl) (And.intro (cache_Valid.spec e_2) (nt g_3)))
theorem cache_usable.mono   : ∀ (k k' : Nat) (c0 : TCache) (s1 : (List TCached)) (rows2 : (List TEntry)) (day3 : Int) (r : Bool), k ≤ k' → cache_usable k c0 s1 rows2 day3 = some r → cache_usable k' c0 s1 rows2 day3 = some r := by
  intro k k' c0 s1 rows2 day3 r hk h
  unfold cache_usable at h ⊢
  obtain ⟨y_1, e_2, h⟩ := bind_or h
  refine bnd (cache_Valid.mono _ _ _ _ hk e_2) ?_
  rcases ite_or h with ⟨g_3, h⟩ | ⟨g_3, h⟩
  · refine itp g_3 ?_
    obtain ⟨y_4, e_5, h⟩ := bind_or h
    refine bnd (bag_Valid.mono _ _ _ _ hk e_5) ?_
    rcases ite_or h with ⟨g_6, h⟩ | ⟨g_6, h⟩
    · refine itp g_6 ?_
      obtain ⟨y_7, e_8, h⟩ := bind_or h
      refine bnd (cache_inDays.mono _ _ _ _ hk e_8) ?_
      rcases ite_or h with ⟨g_9, h⟩ | ⟨g_9, h⟩
      · refine itp g_9 ?_
        obtain ⟨y_10, e_11, h⟩ := bind_or h
        refine bnd (cache_inDays.mono _ _ _ _ hk e_11) ?_
        exact h
      · refine itn g_9 ?_
        exact h
    · refine itn g_6 ?_
      exact h
  · refine itn g_3 ?_
    exact h
theorem cache_usable.spec {k : Nat} {c0 : TCache} {s1 : (List TCached)} {rows2 : (List TEntry)} {day3 : Int} {r : Bool} (h : cache_usable k c0 s1 rows2 day3 = some r) : Spec Try.prog 42 [.agg ((cCache c0).map .p), .p (eL 5 cCached dCached s1), .p (eL 2 cEntry dEntry rows2), .p (.int .i64 day3)] (.p (.bool r)) [] :=
  spec_of mix Try.func42 (body := bodyOf Try.f42) (by kernel_rfl) (by kernel_rfl) (cache_usable.run h)
end Go.Proofs.YtjhnpaenhdbhpabV
set_option linter.unusedVariables false
set_option linter.unusedSimpArgs false
set_option maxRecDepth 100000
namespace Go.Proofs.YtjhnpaenhdbhpabV
open Go Go.RowKit
noncomputable def cache_copied.p1  : Nat → (List TEntry) → Int → (List TEntry) → Option (List TEntry)
  | 0, _, _, _ => none
  | k + 1, l0, i4, out3 => if (decide (i4 < ((l0).length : Int))) = true then (if 0 ≤ i4 ∧ i4 < ((l0).length : Int) then (if ((l0.getD i4.toNat dEntry).f0).length ≤ maxLen ∧ ((l0.getD i4.toNat dEntry).f0).length * 32 ≤ 140737488355328 then (if (out3).length + ([(l0.getD i4.toNat dEntry)]).length ≤ maxLen ∧ ((out3).length + ([(l0.getD i4.toNat dEntry)]).length) * 32 ≤ 140737488355328 then (cache_copied.p1 k l0 (IntKind.i64.wrap (i4 + 1)) (out3 ++ ([(l0.getD i4.toNat dEntry)]))) else none) else none) else none) else (some out3)
noncomputable def cache_copied  (k : Nat) (l0 : (List TEntry)) : Option (List TEntry) := cache_copied.p1 k l0 0 ([] : List TEntry)
noncomputable def cache_copied.t : List Item := [.code (bodyOf Try.f39)]
noncomputable def cache_copied.s (l0 : (List TEntry)) : St := ⟨frOf Try.f39.ntmps 0 [(0, .p (eL 2 cEntry dEntry l0))], []⟩
noncomputable def cache_copied.p1.t : List Item := nav 9 [] cache_copied.t
noncomputable def cache_copied.p1.s (l0 : (List TEntry)) (i4 : Int) (out3 : (List TEntry)) : St := ⟨frOf Try.f39.ntmps 0 [(0, .p (eL 2 cEntry dEntry l0)), (3, .sref 0 36 2 (out3).length), (4, .p (.int .i64 i4))], [(oL true 36 2 cEntry dEntry out3)]⟩
theorem cache_copied.p1.run   : ∀ (k : Nat) (l0 : (List TEntry)) (i4 : Int) (out3 : (List TEntry)) (r : (List TEntry)), cache_copied.p1 k l0 i4 out3 = some r → RunC Try.prog Try.f39 cache_copied.p1.t (cache_copied.p1.s l0 i4 out3) (.sref 0 36 2 (r).length) [(oL true 36 2 cEntry dEntry (r))] := by
  intro k
  induction k with
  | zero => intro l0 i4 out3 r h; simp [cache_copied.p1] at h
  | succ k ih =>
    intro l0 i4 out3 r h
    rw [cache_copied.p1] at h
    rcases ite_or h with ⟨g_1, h⟩ | ⟨g_1, h⟩
    · obtain ⟨g_2, h⟩ := ite_some h
      obtain ⟨g_3, h⟩ := ite_some h
      obtain ⟨g_4, h⟩ := ite_some h
      exact RunC.go [.n 2, .r [(3, .dec true)], .n 4, .r [(13, .obj (oL true 36 2 cEntry dEntry [(l0.getD i4.toNat dEntry)])), (14, .obj (oL true 36 2 cEntry dEntry (out3 ++ ([(l0.getD i4.toNat dEntry)]))))], .n 3, .k [0, 3, 4]] (by kernel_rfl) (Obs.of (by kernel_rfl) (And.intro g_1 (And.intro g_2 (And.intro g_3 (And.intro g_2 (And.intro (le_one 36 2 cEntry dEntry (l0.getD i4.toNat dEntry)) (And.intro g_4 (le_app 36 2 cEntry dEntry out3 ([(l0.getD i4.toNat dEntry)]))))))))) (ih _ _ _ r h)
    · obtain rfl := Option.some.inj h
      exact RunC.out [.n 2, .r [(3, .dec false)], .n 4] (by kernel_rfl) (Obs.of (by kernel_rfl) (nt g_1))
theorem cache_copied.run   {k : Nat} {l0 : (List TEntry)} {r : (List TEntry)} (h : cache_copied k l0 = some r) : RunC Try.prog Try.f39 cache_copied.t (cache_copied.s l0) (.sref 0 36 2 (r).length) [(oL true 36 2 cEntry dEntry (r))] := by
  unfold cache_copied at h
  exact RunC.go [.n 1, .r [(0, .obj (oL true 36 2 cEntry dEntry ([] : List TEntry)))], .n 1, .r [(0, .obj (oL true 36 2 cEntry dEntry ([] : List TEntry)))], .n 5, .k [0, 3, 4]] (by kernel_rfl) (Obs.of (by kernel_rfl) (And.intro (le_nil 36 2 cEntry dEntry) (le_nil 36 2 cEntry dEntry))) (cache_copied.p1.run k _ _ _ r h)
theorem cache_copied.p1.mono   : ∀ (k k' : Nat) (l0 : (List TEntry)) (i4 : Int) (out3 : (List TEntry)) (r : (List TEntry)), k ≤ k' → cache_copied.p1 k l0 i4 out3 = some r → cache_copied.p1 k' l0 i4 out3 = some r := by
  intro k
  induction k with
  | zero => intro k' l0 i4 out3 r hk h; simp [cache_copied.p1] at h
  | succ k ih =>
    intro k' l0 i4 out3 r hk h
    obtain ⟨k', rfl⟩ : ∃ m, k' = m + 1 := ⟨k' - 1, by omega⟩
    replace hk := Nat.le_of_succ_le_succ hk
    rw [cache_copied.p1] at h ⊢
    rcases ite_or h with ⟨g_1, h⟩ | ⟨g_1, h⟩
    · refine itp g_1 ?_
      obtain ⟨g_2, h⟩ := ite_some h
      refine itp g_2 ?_
      obtain ⟨g_3, h⟩ := ite_some h
      refine itp g_3 ?_
      obtain ⟨g_4, h⟩ := ite_some h
      refine itp g_4 ?_
      exact ih _ _ _ _ r hk h
    · refine itn g_1 ?_
      exact h
theorem cache_copied.mono   : ∀ (k k' : Nat) (l0 : (List TEntry)) (r : (List TEntry)), k ≤ k' → cache_copied k l0 = some r → cache_copied k' l0 = some r := by
  intro k k' l0 r hk h
  unfold cache_copied at h ⊢
  exact cache_copied.p1.mono _ _ _ _ _ r hk h
theorem cache_copied.spec {k : Nat} {l0 : (List TEntry)} {r : (List TEntry)} (h : cache_copied k l0 = some r) : Spec Try.prog 39 [.p (eL 2 cEntry dEntry l0)] (.sref 0 36 2 (r).length) [(oL true 36 2 cEntry dEntry (r))] :=
  spec_of mix Try.func39 (body := bodyOf Try.f39) (by kernel_rfl) (by kernel_rfl) (cache_copied.run h)
end Go.Proofs.YtjhnpaenhdbhpabV
set_option linter.unusedVariables false
set_option linter.unusedSimpArgs false
set_option maxRecDepth 100000
namespace Go.Proofs.YtjhnpaenhdbhpabV
open Go Go.RowKit
noncomputable def cache_duplicate  (k : Nat) (x0 : TCached) : Option TCached := (cache_copied k x0.f1).bind fun y_1 => (some (TCached.mk x0.f0 y_1 x0.f2))
noncomputable def cache_duplicate.t : List Item := [.code (bodyOf Try.f48)]
noncomputable def cache_duplicate.s (x0 : TCached) : St := ⟨frOf Try.f48.ntmps 0 [(0, .agg ((cCached x0).map .p))], []⟩
theorem cache_duplicate.run   {k : Nat} {x0 : TCached} {r : TCached} (h : cache_duplicate k x0 = some r) : RunC Try.prog Try.f48 cache_duplicate.t (cache_duplicate.s x0) (.agg ((cCached r).map .p)) [] := by
  unfold cache_duplicate at h
  obtain ⟨y_1, e_2, h⟩ := bind_or h
  obtain rfl := Option.some.inj h
  exact RunC.out [.n 3, .r [(2, .call (.sref 0 36 2 (y_1).length) [(oL true 36 2 cEntry dEntry y_1)])], .n 2] (by kernel_rfl) (Obs.of (by kernel_rfl) (cache_copied.spec e_2))
theorem cache_duplicate.mono   : ∀ (k k' : Nat) (x0 : TCached) (r : TCached), k ≤ k' → cache_duplicate k x0 = some r → cache_duplicate k' x0 = some r := by
  intro k k' x0 r hk h
  unfold cache_duplicate at h ⊢
  obtain ⟨y_1, e_2, h⟩ := bind_or h
  refine bnd (cache_copied.mono _ _ _ _ hk e_2) ?_
  exact h
theorem cache_duplicate.spec {k : Nat} {x0 : TCached} {r : TCached} (h : cache_duplicate k x0 = some r) : Spec Try.prog 48 [.agg ((cCached x0).map .p)] (.agg ((cCached r).map .p)) [] :=
  spec_of mix Try.func48 (body := bodyOf Try.f48) (by kernel_rfl) (by kernel_rfl) (cache_duplicate.run h)
end Go.Proofs.YtjhnpaenhdbhpabV
set_option linter.unusedVariables false
set_option linter.unusedSimpArgs false
set_option maxRecDepth 100000
namespace Go.Proofs.YtjhnpaenhdbhpabV
open Go Go.RowKit
noncomputable def cache_Expire.p1  : Nat → (List TCached) → Int → Int → TCache → (List TCached) → Option (List TCached)
  | 0, _, _, _, _, _ => none
  | k + 1, s1, day2, i8, c3b, out7 => if (decide (i8 < ((s1).length : Int))) = true then (if 0 ≤ i8 ∧ i8 < ((s1).length : Int) then (if (decide (day2 ≥ (s1.getD i8.toNat dCached).f2)) = true then (if (decide (day2 < (IntKind.i64.wrap ((s1.getD i8.toNat dCached).f2 + c3b.f3)))) = true then ((cache_duplicate k (s1.getD i8.toNat dCached)).bind fun y_14 => (if (out7).length + ([y_14]).length ≤ maxLen ∧ ((out7).length + ([y_14]).length) * 64 ≤ 140737488355328 then (cache_Expire.p1 k s1 day2 (IntKind.i64.wrap (i8 + 1)) c3b (out7 ++ ([y_14]))) else none)) else (cache_Expire.p1 k s1 day2 (IntKind.i64.wrap (i8 + 1)) c3b out7)) else (cache_Expire.p1 k s1 day2 (IntKind.i64.wrap (i8 + 1)) c3b out7)) else none) else (some out7)
noncomputable def cache_Expire  (k : Nat) (c0 : TCache) (s1 : (List TCached)) (day2 : Int) : Option (List TCached) := (cache_Valid k s1).bind fun y_1 => (if (!y_1) = true then (some ([] : List TCached)) else ((cache_inDays k c0.f3).bind fun y_4 => (if (!y_4) = true then (some ([] : List TCached)) else ((cache_inDays k day2).bind fun y_7 => (if (!y_7) = true then (some ([] : List TCached)) else (cache_Expire.p1 k s1 day2 0 c0 ([] : List TCached)))))))
noncomputable def cache_Expire.t : List Item := [.code (bodyOf Try.f25)]
noncomputable def cache_Expire.s (c0 : TCache) (s1 : (List TCached)) (day2 : Int) : St := ⟨frOf Try.f25.ntmps 0 [(0, .agg ((cCache c0).map .p)), (1, .p (eL 5 cCached dCached s1)), (2, .p (.int .i64 day2))], []⟩
noncomputable def cache_Expire.p1.t : List Item := nav 14 [false] cache_Expire.t
noncomputable def cache_Expire.p1.s (s1 : (List TCached)) (day2 : Int) (i8 : Int) (c3b : TCache) (out7 : (List TCached)) : St := ⟨frOf Try.f25.ntmps 0 [(1, .p (eL 5 cCached dCached s1)), (2, .p (.int .i64 day2)), (3, .ptr 0 0 0), (7, .sref 1 46 5 (out7).length), (8, .p (.int .i64 i8))], [.box ((cCache c3b).map .p), (oL true 46 5 cCached dCached out7)]⟩
theorem cache_Expire.p1.run   : ∀ (k : Nat) (s1 : (List TCached)) (day2 : Int) (i8 : Int) (c3b : TCache) (out7 : (List TCached)) (r : (List TCached)), cache_Expire.p1 k s1 day2 i8 c3b out7 = some r → RunC Try.prog Try.f25 cache_Expire.p1.t (cache_Expire.p1.s s1 day2 i8 c3b out7) (.sref 0 46 5 (r).length) [(oL true 46 5 cCached dCached (r))] := by
  intro k
  induction k with
  | zero => intro s1 day2 i8 c3b out7 r h; simp [cache_Expire.p1] at h
  | succ k ih =>
    intro s1 day2 i8 c3b out7 r h
    rw [cache_Expire.p1] at h
    rcases ite_or h with ⟨g_10, h⟩ | ⟨g_10, h⟩
    · obtain ⟨g_11, h⟩ := ite_some h
      rcases ite_or h with ⟨g_12, h⟩ | ⟨g_12, h⟩
      · rcases ite_or h with ⟨g_13, h⟩ | ⟨g_13, h⟩
        · obtain ⟨y_14, e_15, h⟩ := bind_or h
          obtain ⟨g_16, h⟩ := ite_some h
          exact RunC.go [.n 2, .r [(3, .dec true)], .n 5, .r [(7, .dec true), (18, .dec true)], .n 1, .r [(5, .call (.agg ((cCached y_14).map .p)) []), (6, .obj (oL true 46 5 cCached dCached [y_14])), (7, .obj (oL true 46 5 cCached dCached (out7 ++ ([y_14]))))], .n 3, .k [1, 2, 3, 7, 8]] (by kernel_rfl) (Obs.of (by kernel_rfl) (And.intro g_10 (And.intro g_11 (And.intro g_12 (And.intro g_11 (And.intro g_13 (And.intro g_11 (And.intro (cache_duplicate.spec e_15) (And.intro (le_one 46 5 cCached dCached y_14) (And.intro g_16 (le_app 46 5 cCached dCached out7 ([y_14])))))))))))) (ih _ _ _ _ _ r h)
        · exact RunC.go [.n 2, .r [(3, .dec true)], .n 5, .r [(7, .dec true), (18, .dec false)], .n 5, .k [1, 2, 3, 7, 8]] (by kernel_rfl) (Obs.of (by kernel_rfl) (And.intro g_10 (And.intro g_11 (And.intro g_12 (And.intro g_11 (nt g_13)))))) (ih _ _ _ _ _ r h)
      · exact RunC.go [.n 2, .r [(3, .dec true)], .n 5, .r [(7, .dec false)], .n 5, .k [1, 2, 3, 7, 8]] (by kernel_rfl) (Obs.of (by kernel_rfl) (And.intro g_10 (And.intro g_11 (nt g_12)))) (ih _ _ _ _ _ r h)
    · obtain rfl := Option.some.inj h
      exact RunC.out [.n 2, .r [(3, .dec false)], .n 4] (by kernel_rfl) (Obs.of (by kernel_rfl) (nt g_10))
theorem cache_Expire.run   {k : Nat} {c0 : TCache} {s1 : (List TCached)} {day2 : Int} {r : (List TCached)} (h : cache_Expire k c0 s1 day2 = some r) : RunC Try.prog Try.f25 cache_Expire.t (cache_Expire.s c0 s1 day2) (.sref 0 46 5 (r).length) [(oL true 46 5 cCached dCached (r))] := by
  unfold cache_Expire at h
  obtain ⟨y_1, e_2, h⟩ := bind_or h
  rcases ite_or h with ⟨g_3, h⟩ | ⟨g_3, h⟩
  · obtain rfl := Option.some.inj h
    exact RunC.out [.n 1, .r [(1, .obj (oL true 46 5 cCached dCached ([] : List TCached)))], .n 2, .r [(1, .call (.p (.bool y_1)) []), (3, .dec true)], .n 2, .r [(0, .obj (oL true 46 5 cCached dCached ([] : List TCached)))]] (by kernel_rfl) (Obs.of (by kernel_rfl) (And.intro (le_nil 46 5 cCached dCached) (And.intro (cache_Valid.spec e_2) (And.intro g_3 (le_nil 46 5 cCached dCached)))))
  · obtain ⟨y_4, e_5, h⟩ := bind_or h
    rcases ite_or h with ⟨g_6, h⟩ | ⟨g_6, h⟩
    · obtain rfl := Option.some.inj h
      exact RunC.out [.n 1, .r [(1, .obj (oL true 46 5 cCached dCached ([] : List TCached)))], .n 2, .r [(1, .call (.p (.bool y_1)) []), (3, .dec false), (6, .call (.p (.bool y_4)) []), (9, .dec true)], .n 2, .r [(0, .obj (oL true 46 5 cCached dCached ([] : List TCached)))]] (by kernel_rfl) (Obs.of (by kernel_rfl) (And.intro (le_nil 46 5 cCached dCached) (And.intro (cache_Valid.spec e_2) (And.intro (nt g_3) (And.intro (cache_inDays.spec e_5) (And.intro g_6 (le_nil 46 5 cCached dCached)))))))
    · obtain ⟨y_7, e_8, h⟩ := bind_or h
      rcases ite_or h with ⟨g_9, h⟩ | ⟨g_9, h⟩
      · obtain rfl := Option.some.inj h
        exact RunC.out [.n 1, .r [(1, .obj (oL true 46 5 cCached dCached ([] : List TCached)))], .n 2, .r [(1, .call (.p (.bool y_1)) []), (3, .dec false), (6, .call (.p (.bool y_4)) []), (9, .dec false), (11, .call (.p (.bool y_7)) []), (13, .dec true)], .n 2, .r [(0, .obj (oL true 46 5 cCached dCached ([] : List TCached)))]] (by kernel_rfl) (Obs.of (by kernel_rfl) (And.intro (le_nil 46 5 cCached dCached) (And.intro (cache_Valid.spec e_2) (And.intro (nt g_3) (And.intro (cache_inDays.spec e_5) (And.intro (nt g_6) (And.intro (cache_inDays.spec e_8) (And.intro g_9 (le_nil 46 5 cCached dCached)))))))))
      · exact RunC.go [.n 1, .r [(1, .obj (oL true 46 5 cCached dCached ([] : List TCached)))], .n 2, .r [(1, .call (.p (.bool y_1)) []), (3, .dec false), (6, .call (.p (.bool y_4)) []), (9, .dec false), (11, .call (.p (.bool y_7)) []), (13, .dec false)], .n 3, .r [(0, .obj (oL true 46 5 cCached dCached ([] : List TCached)))], .n 5, .k [1, 2, 3, 7, 8]] (by kernel_rfl) (Obs.of (by kernel_rfl) (And.intro (le_nil 46 5 cCached dCached) (And.intro (cache_Valid.spec e_2) (And.intro (nt g_3) (And.intro (cache_inDays.spec e_5) (And.intro (nt g_6) (And.intro (cache_inDays.spec e_8) (And.intro (nt g_9) (le_nil 46 5 cCached dCached))))))))) (cache_Expire.p1.run k _ _ _ _ _ r h)
theorem cache_Expire.p1.mono   : ∀ (k k' : Nat) (s1 : (List TCached)) (day2 : Int) (i8 : Int) (c3b : TCache) (out7 : (List TCached)) (r : (List TCached)), k ≤ k' → cache_Expire.p1 k s1 day2 i8 c3b out7 = some r → cache_Expire.p1 k' s1 day2 i8 c3b out7 = some r := by
  intro k
  induction k with
  | zero => intro k' s1 day2 i8 c3b out7 r hk h; simp [cache_Expire.p1] at h
  | succ k ih =>
    intro k' s1 day2 i8 c3b out7 r hk h
    obtain ⟨k', rfl⟩ : ∃ m, k' = m + 1 := ⟨k' - 1, by omega⟩
    replace hk := Nat.le_of_succ_le_succ hk
    rw [cache_Expire.p1] at h ⊢
    rcases ite_or h with ⟨g_10, h⟩ | ⟨g_10, h⟩
    · refine itp g_10 ?_
      obtain ⟨g_11, h⟩ := ite_some h
      refine itp g_11 ?_
      rcases ite_or h with ⟨g_12, h⟩ | ⟨g_12, h⟩
      · refine itp g_12 ?_
        rcases ite_or h with ⟨g_13, h⟩ | ⟨g_13, h⟩
        · refine itp g_13 ?_
          obtain ⟨y_14, e_15, h⟩ := bind_or h
          refine bnd (cache_duplicate.mono _ _ _ _ hk e_15) ?_
          obtain ⟨g_16, h⟩ := ite_some h
          refine itp g_16 ?_
          exact ih _ _ _ _ _ _ r hk h
        · refine itn g_13 ?_
          exact ih _ _ _ _ _ _ r hk h
      · refine itn g_12 ?_
        exact ih _ _ _ _ _ _ r hk h
    · refine itn g_10 ?_
      exact h
theorem cache_Expire.mono   : ∀ (k k' : Nat) (c0 : TCache) (s1 : (List TCached)) (day2 : Int) (r : (List TCached)), k ≤ k' → cache_Expire k c0 s1 day2 = some r → cache_Expire k' c0 s1 day2 = some r := by
  intro k k' c0 s1 day2 r hk h
  unfold cache_Expire at h ⊢
  obtain ⟨y_1, e_2, h⟩ := bind_or h
  refine bnd (cache_Valid.mono _ _ _ _ hk e_2) ?_
  rcases ite_or h with ⟨g_3, h⟩ | ⟨g_3, h⟩
  · refine itp g_3 ?_
    exact h
  · refine itn g_3 ?_
    obtain ⟨y_4, e_5, h⟩ := bind_or h
    refine bnd (cache_inDays.mono _ _ _ _ hk e_5) ?_
    rcases ite_or h with ⟨g_6, h⟩ | ⟨g_6, h⟩
    · refine itp g_6 ?_
      exact h
    · refine itn g_6 ?_
      obtain ⟨y_7, e_8, h⟩ := bind_or h
      refine bnd (cache_inDays.mono _ _ _ _ hk e_8) ?_
      rcases ite_or h with ⟨g_9, h⟩ | ⟨g_9, h⟩
      · refine itp g_9 ?_
        exact h
      · refine itn g_9 ?_
        exact cache_Expire.p1.mono _ _ _ _ _ _ _ r hk h
theorem cache_Expire.spec {k : Nat} {c0 : TCache} {s1 : (List TCached)} {day2 : Int} {r : (List TCached)} (h : cache_Expire k c0 s1 day2 = some r) : Spec Try.prog 25 [.agg ((cCache c0).map .p), .p (eL 5 cCached dCached s1), .p (.int .i64 day2)] (.sref 0 46 5 (r).length) [(oL true 46 5 cCached dCached (r))] :=
  spec_of mix Try.func25 (body := bodyOf Try.f25) (by kernel_rfl) (by kernel_rfl) (cache_Expire.run h)
end Go.Proofs.YtjhnpaenhdbhpabV
set_option linter.unusedVariables false
set_option linter.unusedSimpArgs false
set_option maxRecDepth 100000
namespace Go.Proofs.YtjhnpaenhdbhpabV
open Go Go.RowKit
noncomputable def cache_at  (k : Nat) (row0 : (List TValue)) (column1 : Int) : Option TValue := if (decide (column1 < 0)) = true then (some (TValue.mk 0 0 (⟨#[]⟩ : ByteArray))) else (if (decide (column1 ≥ ((row0).length : Int))) = true then (some (TValue.mk 0 0 (⟨#[]⟩ : ByteArray))) else (if 0 ≤ column1 ∧ column1 < ((row0).length : Int) then ((value_Clean k (row0.getD column1.toNat dValue)).bind fun y_4 => (some y_4)) else none))
noncomputable def cache_at.t : List Item := [.code (bodyOf Try.f38)]
noncomputable def cache_at.s (row0 : (List TValue)) (column1 : Int) : St := ⟨frOf Try.f38.ntmps 0 [(0, .p (eL 3 cValue dValue row0)), (1, .p (.int .i64 column1))], []⟩
theorem cache_at.run   {k : Nat} {row0 : (List TValue)} {column1 : Int} {r : TValue} (h : cache_at k row0 column1 = some r) : RunC Try.prog Try.f38 cache_at.t (cache_at.s row0 column1) (.agg ((cValue r).map .p)) [] := by
  unfold cache_at at h
  rcases ite_or h with ⟨g_1, h⟩ | ⟨g_1, h⟩
  · obtain rfl := Option.some.inj h
    exact RunC.out [.n 4, .r [(2, .dec true)], .n 3] (by kernel_rfl) (Obs.of (by kernel_rfl) g_1)
  · rcases ite_or h with ⟨g_2, h⟩ | ⟨g_2, h⟩
    · obtain rfl := Option.some.inj h
      exact RunC.out [.n 4, .r [(2, .dec false), (7, .dec true)], .n 3] (by kernel_rfl) (Obs.of (by kernel_rfl) (And.intro (nt g_1) g_2))
    · obtain ⟨g_3, h⟩ := ite_some h
      obtain ⟨y_4, e_5, h⟩ := bind_or h
      obtain rfl := Option.some.inj h
      exact RunC.out [.n 4, .r [(2, .dec false), (7, .dec false)], .n 3, .r [(4, .call (.agg ((cValue y_4).map .p)) [])]] (by kernel_rfl) (Obs.of (by kernel_rfl) (And.intro (nt g_1) (And.intro (nt g_2) (And.intro g_3 (value_Clean.spec e_5)))))
theorem cache_at.mono   : ∀ (k k' : Nat) (row0 : (List TValue)) (column1 : Int) (r : TValue), k ≤ k' → cache_at k row0 column1 = some r → cache_at k' row0 column1 = some r := by
  intro k k' row0 column1 r hk h
  unfold cache_at at h ⊢
  rcases ite_or h with ⟨g_1, h⟩ | ⟨g_1, h⟩
  · refine itp g_1 ?_
    exact h
  · refine itn g_1 ?_
    rcases ite_or h with ⟨g_2, h⟩ | ⟨g_2, h⟩
    · refine itp g_2 ?_
      exact h
    · refine itn g_2 ?_
      obtain ⟨g_3, h⟩ := ite_some h
      refine itp g_3 ?_
      obtain ⟨y_4, e_5, h⟩ := bind_or h
      refine bnd (value_Clean.mono _ _ _ _ hk e_5) ?_
      exact h
theorem cache_at.spec {k : Nat} {row0 : (List TValue)} {column1 : Int} {r : TValue} (h : cache_at k row0 column1 = some r) : Spec Try.prog 38 [.p (eL 3 cValue dValue row0), .p (.int .i64 column1)] (.agg ((cValue r).map .p)) [] :=
  spec_of mix Try.func38 (body := bodyOf Try.f38) (by kernel_rfl) (by kernel_rfl) (cache_at.run h)
end Go.Proofs.YtjhnpaenhdbhpabV
set_option linter.unusedVariables false
set_option linter.unusedSimpArgs false
set_option maxRecDepth 100000
namespace Go.Proofs.YtjhnpaenhdbhpabV
open Go Go.RowKit
noncomputable def cache_Select.p1  : Nat → (List TEntry) → Int → Int → TValue → (List TEntry) → Option (List TEntry)
  | 0, _, _, _, _, _ => none
  | k + 1, rows0, column1, i9, want7b, out8 => if (decide (i9 < ((rows0).length : Int))) = true then (if 0 ≤ i9 ∧ i9 < ((rows0).length : Int) then ((cache_at k ((rows0.getD i9.toNat dEntry).f0) column1).bind fun y_5 => (if ((y_5.f0 == want7b.f0) && ((y_5.f1 == want7b.f1) && ((y_5.f2.data.toList == want7b.f2.data.toList) && true))) = true then (if (out8).length + ([(rows0.getD i9.toNat dEntry)]).length ≤ maxLen ∧ ((out8).length + ([(rows0.getD i9.toNat dEntry)]).length) * 32 ≤ 140737488355328 then (cache_Select.p1 k rows0 column1 (IntKind.i64.wrap (i9 + 1)) want7b (out8 ++ ([(rows0.getD i9.toNat dEntry)]))) else none) else (cache_Select.p1 k rows0 column1 (IntKind.i64.wrap (i9 + 1)) want7b out8))) else none) else ((cache_copied k out8).bind fun y_9 => (some y_9))
noncomputable def cache_Select  (k : Nat) (rows0 : (List TEntry)) (column1 : Int) (v2 : TValue) : Option (List TEntry) := (value_Clean k v2).bind fun y_1 => (cache_Select.p1 k rows0 column1 0 y_1 ([] : List TEntry))
noncomputable def cache_Select.t : List Item := [.code (bodyOf Try.f14)]
noncomputable def cache_Select.s (rows0 : (List TEntry)) (column1 : Int) (v2 : TValue) : St := ⟨frOf Try.f14.ntmps 0 [(0, .p (eL 2 cEntry dEntry rows0)), (1, .p (.int .i64 column1)), (2, .agg ((cValue v2).map .p))], []⟩
noncomputable def cache_Select.p1.t : List Item := nav 11 [] cache_Select.t
noncomputable def cache_Select.p1.s (rows0 : (List TEntry)) (column1 : Int) (i9 : Int) (want7b : TValue) (out8 : (List TEntry)) : St := ⟨frOf Try.f14.ntmps 0 [(0, .p (eL 2 cEntry dEntry rows0)), (1, .p (.int .i64 column1)), (7, .ptr 0 0 0), (8, .sref 1 36 2 (out8).length), (9, .p (.int .i64 i9))], [.box ((cValue want7b).map .p), (oL true 36 2 cEntry dEntry out8)]⟩
theorem cache_Select.p1.run   : ∀ (k : Nat) (rows0 : (List TEntry)) (column1 : Int) (i9 : Int) (want7b : TValue) (out8 : (List TEntry)) (r : (List TEntry)), cache_Select.p1 k rows0 column1 i9 want7b out8 = some r → RunC Try.prog Try.f14 cache_Select.p1.t (cache_Select.p1.s rows0 column1 i9 want7b out8) (.sref 0 36 2 (r).length) [(oL true 36 2 cEntry dEntry (r))] := by
  intro k
  induction k with
  | zero => intro rows0 column1 i9 want7b out8 r h; simp [cache_Select.p1] at h
  | succ k ih =>
    intro rows0 column1 i9 want7b out8 r h
    rw [cache_Select.p1] at h
    rcases ite_or h with ⟨g_3, h⟩ | ⟨g_3, h⟩
    · obtain ⟨g_4, h⟩ := ite_some h
      obtain ⟨y_5, e_6, h⟩ := bind_or h
      rcases ite_or h with ⟨g_7, h⟩ | ⟨g_7, h⟩
      · obtain ⟨g_8, h⟩ := ite_some h
        exact RunC.go [.n 2, .r [(3, .dec true)], .n 5, .r [(6, .call (.agg ((cValue y_5).map .p)) []), (8, .dec true)], .n 1, .r [(5, .obj (oL true 36 2 cEntry dEntry [(rows0.getD i9.toNat dEntry)])), (6, .obj (oL true 36 2 cEntry dEntry (out8 ++ ([(rows0.getD i9.toNat dEntry)]))))], .n 3, .k [0, 1, 7, 8, 9]] (by kernel_rfl) (Obs.of (by kernel_rfl) (And.intro g_3 (And.intro g_4 (And.intro (cache_at.spec e_6) (And.intro g_7 (And.intro g_4 (And.intro (le_one 36 2 cEntry dEntry (rows0.getD i9.toNat dEntry)) (And.intro g_8 (le_app 36 2 cEntry dEntry out8 ([(rows0.getD i9.toNat dEntry)])))))))))) (ih _ _ _ _ _ r h)
      · exact RunC.go [.n 2, .r [(3, .dec true)], .n 5, .r [(6, .call (.agg ((cValue y_5).map .p)) []), (8, .dec false)], .n 5, .k [0, 1, 7, 8, 9]] (by kernel_rfl) (Obs.of (by kernel_rfl) (And.intro g_3 (And.intro g_4 (And.intro (cache_at.spec e_6) (nt g_7))))) (ih _ _ _ _ _ r h)
    · obtain ⟨y_9, e_10, h⟩ := bind_or h
      obtain rfl := Option.some.inj h
      exact RunC.out [.n 2, .r [(3, .dec false)], .n 3, .r [(1, .call (.sref 0 36 2 (y_9).length) [(oL true 36 2 cEntry dEntry y_9)])]] (by kernel_rfl) (Obs.of (by kernel_rfl) (And.intro (nt g_3) (cache_copied.spec e_10)))
theorem cache_Select.run   {k : Nat} {rows0 : (List TEntry)} {column1 : Int} {v2 : TValue} {r : (List TEntry)} (h : cache_Select k rows0 column1 v2 = some r) : RunC Try.prog Try.f14 cache_Select.t (cache_Select.s rows0 column1 v2) (.sref 0 36 2 (r).length) [(oL true 36 2 cEntry dEntry (r))] := by
  unfold cache_Select at h
  obtain ⟨y_1, e_2, h⟩ := bind_or h
  exact RunC.go [.n 1, .r [(1, .obj (oL true 36 2 cEntry dEntry ([] : List TEntry)))], .n 1, .r [(1, .call (.agg ((cValue y_1).map .p)) [])], .n 1, .r [(0, .obj (oL true 36 2 cEntry dEntry ([] : List TEntry)))], .n 5, .k [0, 1, 7, 8, 9]] (by kernel_rfl) (Obs.of (by kernel_rfl) (And.intro (le_nil 36 2 cEntry dEntry) (And.intro (value_Clean.spec e_2) (le_nil 36 2 cEntry dEntry)))) (cache_Select.p1.run k _ _ _ _ _ r h)
theorem cache_Select.p1.mono   : ∀ (k k' : Nat) (rows0 : (List TEntry)) (column1 : Int) (i9 : Int) (want7b : TValue) (out8 : (List TEntry)) (r : (List TEntry)), k ≤ k' → cache_Select.p1 k rows0 column1 i9 want7b out8 = some r → cache_Select.p1 k' rows0 column1 i9 want7b out8 = some r := by
  intro k
  induction k with
  | zero => intro k' rows0 column1 i9 want7b out8 r hk h; simp [cache_Select.p1] at h
  | succ k ih =>
    intro k' rows0 column1 i9 want7b out8 r hk h
    obtain ⟨k', rfl⟩ : ∃ m, k' = m + 1 := ⟨k' - 1, by omega⟩
    replace hk := Nat.le_of_succ_le_succ hk
    rw [cache_Select.p1] at h ⊢
    rcases ite_or h with ⟨g_3, h⟩ | ⟨g_3, h⟩
    · refine itp g_3 ?_
      obtain ⟨g_4, h⟩ := ite_some h
      refine itp g_4 ?_
      obtain ⟨y_5, e_6, h⟩ := bind_or h
      refine bnd (cache_at.mono _ _ _ _ _ hk e_6) ?_
      rcases ite_or h with ⟨g_7, h⟩ | ⟨g_7, h⟩
      · refine itp g_7 ?_
        obtain ⟨g_8, h⟩ := ite_some h
        refine itp g_8 ?_
        exact ih _ _ _ _ _ _ r hk h
      · refine itn g_7 ?_
        exact ih _ _ _ _ _ _ r hk h
    · refine itn g_3 ?_
      obtain ⟨y_9, e_10, h⟩ := bind_or h
      refine bnd (cache_copied.mono _ _ _ _ hk e_10) ?_
      exact h
theorem cache_Select.mono   : ∀ (k k' : Nat) (rows0 : (List TEntry)) (column1 : Int) (v2 : TValue) (r : (List TEntry)), k ≤ k' → cache_Select k rows0 column1 v2 = some r → cache_Select k' rows0 column1 v2 = some r := by
  intro k k' rows0 column1 v2 r hk h
  unfold cache_Select at h ⊢
  obtain ⟨y_1, e_2, h⟩ := bind_or h
  refine bnd (value_Clean.mono _ _ _ _ hk e_2) ?_
  exact cache_Select.p1.mono _ _ _ _ _ _ _ r hk h
theorem cache_Select.spec {k : Nat} {rows0 : (List TEntry)} {column1 : Int} {v2 : TValue} {r : (List TEntry)} (h : cache_Select k rows0 column1 v2 = some r) : Spec Try.prog 14 [.p (eL 2 cEntry dEntry rows0), .p (.int .i64 column1), .agg ((cValue v2).map .p)] (.sref 0 36 2 (r).length) [(oL true 36 2 cEntry dEntry (r))] :=
  spec_of mix Try.func14 (body := bodyOf Try.f14) (by kernel_rfl) (by kernel_rfl) (cache_Select.run h)
end Go.Proofs.YtjhnpaenhdbhpabV
set_option linter.unusedVariables false
set_option linter.unusedSimpArgs false
set_option maxRecDepth 100000
namespace Go.Proofs.YtjhnpaenhdbhpabV
open Go Go.RowKit
noncomputable def cache_Lookup.p3  : Nat → (List TEntry) → Int → Int → TCache → (List TCached) → TValue → Option ((List TCached) × (List TEntry) × Int)
  | 0, _, _, _, _, _, _ => none
  | k + 1, rows2, day4, i18, c5b, out13, want14b => if (decide (i18 < ((out13).length : Int))) = true then (if 0 ≤ i18 ∧ i18 < ((out13).length : Int) then ((value_Compare k ((out13.getD i18.toNat dCached).f0) want14b).bind fun y_23 => (if (decide (y_23 < 0)) = true then (cache_Lookup.p3 k rows2 day4 (IntKind.i64.wrap (i18 + 1)) c5b out13 want14b) else (if (out13).length + ([(TCached.mk (TValue.mk 0 0 (⟨#[]⟩ : ByteArray)) ([] : List TEntry) 0)]).length ≤ maxLen ∧ ((out13).length + ([(TCached.mk (TValue.mk 0 0 (⟨#[]⟩ : ByteArray)) ([] : List TEntry) 0)]).length) * 64 ≤ 140737488355328 then (if 0 ≤ (IntKind.i64.wrap (i18 + 1)) ∧ (IntKind.i64.wrap (i18 + 1)) ≤ (((out13 ++ ([(TCached.mk (TValue.mk 0 0 (⟨#[]⟩ : ByteArray)) ([] : List TEntry) 0)]))).length : Int) ∧ (((out13 ++ ([(TCached.mk (TValue.mk 0 0 (⟨#[]⟩ : ByteArray)) ([] : List TEntry) 0)]))).length : Int) ≤ (((out13 ++ ([(TCached.mk (TValue.mk 0 0 (⟨#[]⟩ : ByteArray)) ([] : List TEntry) 0)]))).length : Int) then (if 0 ≤ i18 ∧ i18 ≤ (((out13 ++ ([(TCached.mk (TValue.mk 0 0 (⟨#[]⟩ : ByteArray)) ([] : List TEntry) 0)]))).length : Int) ∧ (((out13 ++ ([(TCached.mk (TValue.mk 0 0 (⟨#[]⟩ : ByteArray)) ([] : List TEntry) 0)]))).length : Int) ≤ (((out13 ++ ([(TCached.mk (TValue.mk 0 0 (⟨#[]⟩ : ByteArray)) ([] : List TEntry) 0)]))).length : Int) then ((cache_Select k rows2 c5b.f2 want14b).bind fun y_29 => (if 0 ≤ i18 ∧ i18 < (((out13 ++ ([(TCached.mk (TValue.mk 0 0 (⟨#[]⟩ : ByteArray)) ([] : List TEntry) 0)]))).length : Int) then ((cache_copied k ((((copyL (out13 ++ ([(TCached.mk (TValue.mk 0 0 (⟨#[]⟩ : ByteArray)) ([] : List TEntry) 0)])) (IntKind.i64.wrap (i18 + 1)) (((out13 ++ ([(TCached.mk (TValue.mk 0 0 (⟨#[]⟩ : ByteArray)) ([] : List TEntry) 0)]))).length : Int) (subL (out13 ++ ([(TCached.mk (TValue.mk 0 0 (⟨#[]⟩ : ByteArray)) ([] : List TEntry) 0)])) i18 (((out13 ++ ([(TCached.mk (TValue.mk 0 0 (⟨#[]⟩ : ByteArray)) ([] : List TEntry) 0)]))).length : Int))).set i18.toNat (TCached.mk want14b y_29 day4)).getD i18.toNat dCached).f1)).bind fun y_32 => (some (((copyL (out13 ++ ([(TCached.mk (TValue.mk 0 0 (⟨#[]⟩ : ByteArray)) ([] : List TEntry) 0)])) (IntKind.i64.wrap (i18 + 1)) (((out13 ++ ([(TCached.mk (TValue.mk 0 0 (⟨#[]⟩ : ByteArray)) ([] : List TEntry) 0)]))).length : Int) (subL (out13 ++ ([(TCached.mk (TValue.mk 0 0 (⟨#[]⟩ : ByteArray)) ([] : List TEntry) 0)])) i18 (((out13 ++ ([(TCached.mk (TValue.mk 0 0 (⟨#[]⟩ : ByteArray)) ([] : List TEntry) 0)]))).length : Int))).set i18.toNat (TCached.mk want14b y_29 day4)), y_32, 0))) else none)) else none) else none) else none))) else none) else (if (out13).length + ([(TCached.mk (TValue.mk 0 0 (⟨#[]⟩ : ByteArray)) ([] : List TEntry) 0)]).length ≤ maxLen ∧ ((out13).length + ([(TCached.mk (TValue.mk 0 0 (⟨#[]⟩ : ByteArray)) ([] : List TEntry) 0)]).length) * 64 ≤ 140737488355328 then (if 0 ≤ (IntKind.i64.wrap (i18 + 1)) ∧ (IntKind.i64.wrap (i18 + 1)) ≤ (((out13 ++ ([(TCached.mk (TValue.mk 0 0 (⟨#[]⟩ : ByteArray)) ([] : List TEntry) 0)]))).length : Int) ∧ (((out13 ++ ([(TCached.mk (TValue.mk 0 0 (⟨#[]⟩ : ByteArray)) ([] : List TEntry) 0)]))).length : Int) ≤ (((out13 ++ ([(TCached.mk (TValue.mk 0 0 (⟨#[]⟩ : ByteArray)) ([] : List TEntry) 0)]))).length : Int) then (if 0 ≤ i18 ∧ i18 ≤ (((out13 ++ ([(TCached.mk (TValue.mk 0 0 (⟨#[]⟩ : ByteArray)) ([] : List TEntry) 0)]))).length : Int) ∧ (((out13 ++ ([(TCached.mk (TValue.mk 0 0 (⟨#[]⟩ : ByteArray)) ([] : List TEntry) 0)]))).length : Int) ≤ (((out13 ++ ([(TCached.mk (TValue.mk 0 0 (⟨#[]⟩ : ByteArray)) ([] : List TEntry) 0)]))).length : Int) then ((cache_Select k rows2 c5b.f2 want14b).bind fun y_37 => (if 0 ≤ i18 ∧ i18 < (((out13 ++ ([(TCached.mk (TValue.mk 0 0 (⟨#[]⟩ : ByteArray)) ([] : List TEntry) 0)]))).length : Int) then ((cache_copied k ((((copyL (out13 ++ ([(TCached.mk (TValue.mk 0 0 (⟨#[]⟩ : ByteArray)) ([] : List TEntry) 0)])) (IntKind.i64.wrap (i18 + 1)) (((out13 ++ ([(TCached.mk (TValue.mk 0 0 (⟨#[]⟩ : ByteArray)) ([] : List TEntry) 0)]))).length : Int) (subL (out13 ++ ([(TCached.mk (TValue.mk 0 0 (⟨#[]⟩ : ByteArray)) ([] : List TEntry) 0)])) i18 (((out13 ++ ([(TCached.mk (TValue.mk 0 0 (⟨#[]⟩ : ByteArray)) ([] : List TEntry) 0)]))).length : Int))).set i18.toNat (TCached.mk want14b y_37 day4)).getD i18.toNat dCached).f1)).bind fun y_40 => (some (((copyL (out13 ++ ([(TCached.mk (TValue.mk 0 0 (⟨#[]⟩ : ByteArray)) ([] : List TEntry) 0)])) (IntKind.i64.wrap (i18 + 1)) (((out13 ++ ([(TCached.mk (TValue.mk 0 0 (⟨#[]⟩ : ByteArray)) ([] : List TEntry) 0)]))).length : Int) (subL (out13 ++ ([(TCached.mk (TValue.mk 0 0 (⟨#[]⟩ : ByteArray)) ([] : List TEntry) 0)])) i18 (((out13 ++ ([(TCached.mk (TValue.mk 0 0 (⟨#[]⟩ : ByteArray)) ([] : List TEntry) 0)]))).length : Int))).set i18.toNat (TCached.mk want14b y_37 day4)), y_40, 0))) else none)) else none) else none) else none)
noncomputable def cache_Lookup.p2  : Nat → (List TEntry) → Int → Int → Int → TCache → (List TCached) → TValue → Option ((List TCached) × (List TEntry) × Int)
  | 0, _, _, _, _, _, _, _ => none
  | k + 1, rows2, day4, oldest16, i17, c5b, out13, want14b => if (decide (i17 < ((out13).length : Int))) = true then (if 0 ≤ i17 ∧ i17 < ((out13).length : Int) then (if 0 ≤ oldest16 ∧ oldest16 < ((out13).length : Int) then (if (decide ((out13.getD i17.toNat dCached).f2 < (out13.getD oldest16.toNat dCached).f2)) = true then (cache_Lookup.p2 k rows2 day4 i17 (IntKind.i64.wrap (i17 + 1)) c5b out13 want14b) else (cache_Lookup.p2 k rows2 day4 oldest16 (IntKind.i64.wrap (i17 + 1)) c5b out13 want14b)) else none) else none) else (if 0 ≤ (0 : Int) ∧ (0 : Int) ≤ oldest16 ∧ oldest16 ≤ ((out13).length : Int) then (if 0 ≤ (IntKind.i64.wrap (oldest16 + 1)) ∧ (IntKind.i64.wrap (oldest16 + 1)) ≤ ((out13).length : Int) ∧ ((out13).length : Int) ≤ ((out13).length : Int) then (if (oldest16.toNat - (0 : Int).toNat) + (((out13).length : Int).toNat - (IntKind.i64.wrap (oldest16 + 1)).toNat) ≤ maxLen ∧ ((oldest16.toNat - (0 : Int).toNat) + (((out13).length : Int).toNat - (IntKind.i64.wrap (oldest16 + 1)).toNat)) * 64 ≤ 140737488355328 then (cache_Lookup.p3 k rows2 day4 0 c5b (subL out13 0 oldest16 ++ subL out13 (IntKind.i64.wrap (oldest16 + 1)) ((out13).length : Int)) want14b) else none) else none) else none)
noncomputable def cache_Lookup.p1  : Nat → (List TEntry) → Int → Int → TCache → (List TCached) → TValue → Option ((List TCached) × (List TEntry) × Int)
  | 0, _, _, _, _, _, _ => none
  | k + 1, rows2, day4, i15, c5b, out13, want14b => if (decide (i15 < ((out13).length : Int))) = true then (if 0 ≤ i15 ∧ i15 < ((out13).length : Int) then (if (((out13.getD i15.toNat dCached).f0.f0 == want14b.f0) && (((out13.getD i15.toNat dCached).f0.f1 == want14b.f1) && ((((out13.getD i15.toNat dCached).f0.f2).data.toList == want14b.f2.data.toList) && true))) = true then ((cache_copied k ((out13.getD i15.toNat dCached).f1)).bind fun y_11 => (some (out13, y_11, 0))) else (cache_Lookup.p1 k rows2 day4 (IntKind.i64.wrap (i15 + 1)) c5b out13 want14b)) else none) else (if (decide (((out13).length : Int) ≥ 16)) = true then (cache_Lookup.p2 k rows2 day4 0 1 c5b out13 want14b) else (cache_Lookup.p3 k rows2 day4 0 c5b out13 want14b))
noncomputable def cache_Lookup  (k : Nat) (c0 : TCache) (s1 : (List TCached)) (rows2 : (List TEntry)) (v3 : TValue) (day4 : Int) : Option ((List TCached) × (List TEntry) × Int) := (cache_usable k c0 s1 rows2 day4).bind fun y_1 => (if (!y_1) = true then (some (([] : List TCached), ([] : List TEntry), 1)) else ((cache_Expire k c0 s1 day4).bind fun y_4 => ((value_Clean k v3).bind fun y_6 => (cache_Lookup.p1 k rows2 day4 0 c0 y_4 y_6))))
noncomputable def cache_Lookup.t : List Item := [.code (bodyOf Try.f17)]
noncomputable def cache_Lookup.s (c0 : TCache) (s1 : (List TCached)) (rows2 : (List TEntry)) (v3 : TValue) (day4 : Int) : St := ⟨frOf Try.f17.ntmps 0 [(0, .agg ((cCache c0).map .p)), (1, .p (eL 5 cCached dCached s1)), (2, .p (eL 2 cEntry dEntry rows2)), (3, .agg ((cValue v3).map .p)), (4, .p (.int .i64 day4))], []⟩
noncomputable def cache_Lookup.p1.t : List Item := nav 16 [false] cache_Lookup.t
noncomputable def cache_Lookup.p1.s (rows2 : (List TEntry)) (day4 : Int) (i15 : Int) (c5b : TCache) (out13 : (List TCached)) (want14b : TValue) : St := ⟨frOf Try.f17.ntmps 0 [(2, .p (eL 2 cEntry dEntry rows2)), (4, .p (.int .i64 day4)), (5, .ptr 0 0 0), (13, .sref 1 46 5 (out13).length), (14, .ptr 2 0 0), (15, .p (.int .i64 i15))], [.box ((cCache c5b).map .p), (oL true 46 5 cCached dCached out13), .box ((cValue want14b).map .p)]⟩
noncomputable def cache_Lookup.p2.t : List Item := nav 16 [false, true] cache_Lookup.p1.t
noncomputable def cache_Lookup.p2.s (rows2 : (List TEntry)) (day4 : Int) (oldest16 : Int) (i17 : Int) (c5b : TCache) (out13 : (List TCached)) (want14b : TValue) : St := ⟨frOf Try.f17.ntmps 0 [(2, .p (eL 2 cEntry dEntry rows2)), (4, .p (.int .i64 day4)), (5, .ptr 0 0 0), (13, .sref 1 46 5 (out13).length), (14, .ptr 2 0 0), (16, .p (.int .i64 oldest16)), (17, .p (.int .i64 i17))], [.box ((cCache c5b).map .p), (oL true 46 5 cCached dCached out13), .box ((cValue want14b).map .p)]⟩
noncomputable def cache_Lookup.p3.t : List Item := nav 11 [false] cache_Lookup.p2.t
noncomputable def cache_Lookup.p3.s (rows2 : (List TEntry)) (day4 : Int) (i18 : Int) (c5b : TCache) (out13 : (List TCached)) (want14b : TValue) : St := ⟨frOf Try.f17.ntmps 0 [(2, .p (eL 2 cEntry dEntry rows2)), (4, .p (.int .i64 day4)), (5, .ptr 0 0 0), (13, .sref 1 46 5 (out13).length), (14, .ptr 2 0 0), (18, .p (.int .i64 i18))], [.box ((cCache c5b).map .p), (oL true 46 5 cCached dCached out13), .box ((cValue want14b).map .p)]⟩
theorem cache_Lookup.p3.run   : ∀ (k : Nat) (rows2 : (List TEntry)) (day4 : Int) (i18 : Int) (c5b : TCache) (out13 : (List TCached)) (want14b : TValue) (r : ((List TCached) × (List TEntry) × Int)), cache_Lookup.p3 k rows2 day4 i18 c5b out13 want14b = some r → RunC Try.prog Try.f17 cache_Lookup.p3.t (cache_Lookup.p3.s rows2 day4 i18 c5b out13 want14b) (.tup [.sref 0 46 5 (r.1).length, .sref 1 36 2 (r.2.1).length, .p (.int .i64 r.2.2)]) [(oL true 46 5 cCached dCached (r.1)), (oL true 36 2 cEntry dEntry (r.2.1))] := by
  intro k
  induction k with
  | zero => intro rows2 day4 i18 c5b out13 want14b r h; simp [cache_Lookup.p3] at h
  | succ k ih =>
    intro rows2 day4 i18 c5b out13 want14b r h
    rw [cache_Lookup.p3] at h
    rcases ite_or h with ⟨g_21, h⟩ | ⟨g_21, h⟩
    · obtain ⟨g_22, h⟩ := ite_some h
      obtain ⟨y_23, e_24, h⟩ := bind_or h
      rcases ite_or h with ⟨g_25, h⟩ | ⟨g_25, h⟩
      · exact RunC.go [.n 2, .r [(4, .dec true), (11, .call (.p (.int .i64 y_23)) []), (13, .dec true)], .n 6, .k [2, 4, 5, 13, 14, 18]] (by kernel_rfl) (Obs.of (by kernel_rfl) (And.intro g_21 (And.intro g_22 (And.intro (value_Compare.spec e_24) g_25)))) (ih _ _ _ _ _ _ r h)
      · obtain ⟨g_26, h⟩ := ite_some h
        obtain ⟨g_27, h⟩ := ite_some h
        obtain ⟨g_28, h⟩ := ite_some h
        obtain ⟨y_29, e_30, h⟩ := bind_or h
        obtain ⟨g_31, h⟩ := ite_some h
        obtain ⟨y_32, e_33, h⟩ := bind_or h
        obtain rfl := Option.some.inj h
        exact RunC.out [.n 2, .r [(4, .dec true), (11, .call (.p (.int .i64 y_23)) []), (13, .dec false)], .n 3, .r [(1, .fv (.agg [.p (.int .i64 0), .p (.int .i64 0), .p (.str (⟨#[]⟩ : ByteArray)), .p (eL 2 cEntry dEntry ([] : List TEntry)), .p (.int .i64 0)])), (2, .obj (oL true 46 5 cCached dCached [(TCached.mk (TValue.mk 0 0 (⟨#[]⟩ : ByteArray)) ([] : List TEntry) 0)])), (3, .obj (oL true 46 5 cCached dCached (out13 ++ ([(TCached.mk (TValue.mk 0 0 (⟨#[]⟩ : ByteArray)) ([] : List TEntry) 0)]))))], .n 1, .r [(7, .obj (oL true 46 5 cCached dCached (copyL (out13 ++ ([(TCached.mk (TValue.mk 0 0 (⟨#[]⟩ : ByteArray)) ([] : List TEntry) 0)])) (IntKind.i64.wrap (i18 + 1)) (((out13 ++ ([(TCached.mk (TValue.mk 0 0 (⟨#[]⟩ : ByteArray)) ([] : List TEntry) 0)]))).length : Int) (subL (out13 ++ ([(TCached.mk (TValue.mk 0 0 (⟨#[]⟩ : ByteArray)) ([] : List TEntry) 0)])) i18 (((out13 ++ ([(TCached.mk (TValue.mk 0 0 (⟨#[]⟩ : ByteArray)) ([] : List TEntry) 0)]))).length : Int)))))], .n 1, .r [(7, .call (.sref 0 36 2 (y_29).length) [(oL true 36 2 cEntry dEntry y_29)]), (11, .obj (oL true 46 5 cCached dCached ((copyL (out13 ++ ([(TCached.mk (TValue.mk 0 0 (⟨#[]⟩ : ByteArray)) ([] : List TEntry) 0)])) (IntKind.i64.wrap (i18 + 1)) (((out13 ++ ([(TCached.mk (TValue.mk 0 0 (⟨#[]⟩ : ByteArray)) ([] : List TEntry) 0)]))).length : Int) (subL (out13 ++ ([(TCached.mk (TValue.mk 0 0 (⟨#[]⟩ : ByteArray)) ([] : List TEntry) 0)])) i18 (((out13 ++ ([(TCached.mk (TValue.mk 0 0 (⟨#[]⟩ : ByteArray)) ([] : List TEntry) 0)]))).length : Int))).set i18.toNat (TCached.mk want14b y_29 day4))))], .n 1, .r [(6, .call (.sref 0 36 2 (y_32).length) [(oL true 36 2 cEntry dEntry y_32)])]] (by kernel_rfl) (Obs.of (by kernel_rfl) (And.intro g_21 (And.intro g_22 (And.intro (value_Compare.spec e_24) (And.intro (nt g_25) (And.intro (fle_agg (fls_cons (fle_rfl (.p (.int .i64 0))) (fls_cons (fle_rfl (.p (.int .i64 0))) (fls_cons (fle_rfl (.p (.str (⟨#[]⟩ : ByteArray)))) (fls_cons (fle_nil 2 cEntry dEntry) (fls_cons (fle_rfl (.p (.int .i64 0))) fls_nil)))))) (And.intro (le_one 46 5 cCached dCached (TCached.mk (TValue.mk 0 0 (⟨#[]⟩ : ByteArray)) ([] : List TEntry) 0)) (And.intro (And.intro g_26 (le_app 46 5 cCached dCached out13 ([(TCached.mk (TValue.mk 0 0 (⟨#[]⟩ : ByteArray)) ([] : List TEntry) 0)]))) (And.intro g_27 (And.intro g_28 (And.intro (le_copySS 46 5 cCached dCached (out13 ++ ([(TCached.mk (TValue.mk 0 0 (⟨#[]⟩ : ByteArray)) ([] : List TEntry) 0)])) (out13 ++ ([(TCached.mk (TValue.mk 0 0 (⟨#[]⟩ : ByteArray)) ([] : List TEntry) 0)])) (IntKind.i64.wrap (i18 + 1)) (((out13 ++ ([(TCached.mk (TValue.mk 0 0 (⟨#[]⟩ : ByteArray)) ([] : List TEntry) 0)]))).length : Int) i18 (((out13 ++ ([(TCached.mk (TValue.mk 0 0 (⟨#[]⟩ : ByteArray)) ([] : List TEntry) 0)]))).length : Int) g_27 g_28) (And.intro (cache_Select.spec e_30) (And.intro g_31 (And.intro (le_set 46 5 cCached dCached (copyL (out13 ++ ([(TCached.mk (TValue.mk 0 0 (⟨#[]⟩ : ByteArray)) ([] : List TEntry) 0)])) (IntKind.i64.wrap (i18 + 1)) (((out13 ++ ([(TCached.mk (TValue.mk 0 0 (⟨#[]⟩ : ByteArray)) ([] : List TEntry) 0)]))).length : Int) (subL (out13 ++ ([(TCached.mk (TValue.mk 0 0 (⟨#[]⟩ : ByteArray)) ([] : List TEntry) 0)])) i18 (((out13 ++ ([(TCached.mk (TValue.mk 0 0 (⟨#[]⟩ : ByteArray)) ([] : List TEntry) 0)]))).length : Int))) (TCached.mk want14b y_29 day4) i18.toNat rfl) (And.intro g_31 (cache_copied.spec e_33))))))))))))))))
    · obtain ⟨g_34, h⟩ := ite_some h
      obtain ⟨g_35, h⟩ := ite_some h
      obtain ⟨g_36, h⟩ := ite_some h
      obtain ⟨y_37, e_38, h⟩ := bind_or h
      obtain ⟨g_39, h⟩ := ite_some h
      obtain ⟨y_40, e_41, h⟩ := bind_or h
      obtain rfl := Option.some.inj h
      exact RunC.out [.n 2, .r [(4, .dec false)], .n 3, .r [(1, .fv (.agg [.p (.int .i64 0), .p (.int .i64 0), .p (.str (⟨#[]⟩ : ByteArray)), .p (eL 2 cEntry dEntry ([] : List TEntry)), .p (.int .i64 0)])), (2, .obj (oL true 46 5 cCached dCached [(TCached.mk (TValue.mk 0 0 (⟨#[]⟩ : ByteArray)) ([] : List TEntry) 0)])), (3, .obj (oL true 46 5 cCached dCached (out13 ++ ([(TCached.mk (TValue.mk 0 0 (⟨#[]⟩ : ByteArray)) ([] : List TEntry) 0)]))))], .n 1, .r [(7, .obj (oL true 46 5 cCached dCached (copyL (out13 ++ ([(TCached.mk (TValue.mk 0 0 (⟨#[]⟩ : ByteArray)) ([] : List TEntry) 0)])) (IntKind.i64.wrap (i18 + 1)) (((out13 ++ ([(TCached.mk (TValue.mk 0 0 (⟨#[]⟩ : ByteArray)) ([] : List TEntry) 0)]))).length : Int) (subL (out13 ++ ([(TCached.mk (TValue.mk 0 0 (⟨#[]⟩ : ByteArray)) ([] : List TEntry) 0)])) i18 (((out13 ++ ([(TCached.mk (TValue.mk 0 0 (⟨#[]⟩ : ByteArray)) ([] : List TEntry) 0)]))).length : Int)))))], .n 1, .r [(7, .call (.sref 0 36 2 (y_37).length) [(oL true 36 2 cEntry dEntry y_37)]), (11, .obj (oL true 46 5 cCached dCached ((copyL (out13 ++ ([(TCached.mk (TValue.mk 0 0 (⟨#[]⟩ : ByteArray)) ([] : List TEntry) 0)])) (IntKind.i64.wrap (i18 + 1)) (((out13 ++ ([(TCached.mk (TValue.mk 0 0 (⟨#[]⟩ : ByteArray)) ([] : List TEntry) 0)]))).length : Int) (subL (out13 ++ ([(TCached.mk (TValue.mk 0 0 (⟨#[]⟩ : ByteArray)) ([] : List TEntry) 0)])) i18 (((out13 ++ ([(TCached.mk (TValue.mk 0 0 (⟨#[]⟩ : ByteArray)) ([] : List TEntry) 0)]))).length : Int))).set i18.toNat (TCached.mk want14b y_37 day4))))], .n 1, .r [(6, .call (.sref 0 36 2 (y_40).length) [(oL true 36 2 cEntry dEntry y_40)])]] (by kernel_rfl) (Obs.of (by kernel_rfl) (And.intro (nt g_21) (And.intro (fle_agg (fls_cons (fle_rfl (.p (.int .i64 0))) (fls_cons (fle_rfl (.p (.int .i64 0))) (fls_cons (fle_rfl (.p (.str (⟨#[]⟩ : ByteArray)))) (fls_cons (fle_nil 2 cEntry dEntry) (fls_cons (fle_rfl (.p (.int .i64 0))) fls_nil)))))) (And.intro (le_one 46 5 cCached dCached (TCached.mk (TValue.mk 0 0 (⟨#[]⟩ : ByteArray)) ([] : List TEntry) 0)) (And.intro (And.intro g_34 (le_app 46 5 cCached dCached out13 ([(TCached.mk (TValue.mk 0 0 (⟨#[]⟩ : ByteArray)) ([] : List TEntry) 0)]))) (And.intro g_35 (And.intro g_36 (And.intro (le_copySS 46 5 cCached dCached (out13 ++ ([(TCached.mk (TValue.mk 0 0 (⟨#[]⟩ : ByteArray)) ([] : List TEntry) 0)])) (out13 ++ ([(TCached.mk (TValue.mk 0 0 (⟨#[]⟩ : ByteArray)) ([] : List TEntry) 0)])) (IntKind.i64.wrap (i18 + 1)) (((out13 ++ ([(TCached.mk (TValue.mk 0 0 (⟨#[]⟩ : ByteArray)) ([] : List TEntry) 0)]))).length : Int) i18 (((out13 ++ ([(TCached.mk (TValue.mk 0 0 (⟨#[]⟩ : ByteArray)) ([] : List TEntry) 0)]))).length : Int) g_35 g_36) (And.intro (cache_Select.spec e_38) (And.intro g_39 (And.intro (le_set 46 5 cCached dCached (copyL (out13 ++ ([(TCached.mk (TValue.mk 0 0 (⟨#[]⟩ : ByteArray)) ([] : List TEntry) 0)])) (IntKind.i64.wrap (i18 + 1)) (((out13 ++ ([(TCached.mk (TValue.mk 0 0 (⟨#[]⟩ : ByteArray)) ([] : List TEntry) 0)]))).length : Int) (subL (out13 ++ ([(TCached.mk (TValue.mk 0 0 (⟨#[]⟩ : ByteArray)) ([] : List TEntry) 0)])) i18 (((out13 ++ ([(TCached.mk (TValue.mk 0 0 (⟨#[]⟩ : ByteArray)) ([] : List TEntry) 0)]))).length : Int))) (TCached.mk want14b y_37 day4) i18.toNat rfl) (And.intro g_39 (cache_copied.spec e_41)))))))))))))
theorem cache_Lookup.p2.run   : ∀ (k : Nat) (rows2 : (List TEntry)) (day4 : Int) (oldest16 : Int) (i17 : Int) (c5b : TCache) (out13 : (List TCached)) (want14b : TValue) (r : ((List TCached) × (List TEntry) × Int)), cache_Lookup.p2 k rows2 day4 oldest16 i17 c5b out13 want14b = some r → RunC Try.prog Try.f17 cache_Lookup.p2.t (cache_Lookup.p2.s rows2 day4 oldest16 i17 c5b out13 want14b) (.tup [.sref 0 46 5 (r.1).length, .sref 1 36 2 (r.2.1).length, .p (.int .i64 r.2.2)]) [(oL true 46 5 cCached dCached (r.1)), (oL true 36 2 cEntry dEntry (r.2.1))] := by
  intro k
  induction k with
  | zero => intro rows2 day4 oldest16 i17 c5b out13 want14b r h; simp [cache_Lookup.p2] at h
  | succ k ih =>
    intro rows2 day4 oldest16 i17 c5b out13 want14b r h
    rw [cache_Lookup.p2] at h
    rcases ite_or h with ⟨g_14, h⟩ | ⟨g_14, h⟩
    · obtain ⟨g_15, h⟩ := ite_some h
      obtain ⟨g_16, h⟩ := ite_some h
      rcases ite_or h with ⟨g_17, h⟩ | ⟨g_17, h⟩
      · exact RunC.go [.n 2, .r [(3, .dec true)], .n 5, .r [(10, .dec true)], .n 5, .k [2, 4, 5, 13, 14, 16, 17]] (by kernel_rfl) (Obs.of (by kernel_rfl) (And.intro g_14 (And.intro g_15 (And.intro g_16 g_17)))) (ih _ _ _ _ _ _ _ r h)
      · exact RunC.go [.n 2, .r [(3, .dec true)], .n 5, .r [(10, .dec false)], .n 5, .k [2, 4, 5, 13, 14, 16, 17]] (by kernel_rfl) (Obs.of (by kernel_rfl) (And.intro g_14 (And.intro g_15 (And.intro g_16 (nt g_17))))) (ih _ _ _ _ _ _ _ r h)
    · obtain ⟨g_18, h⟩ := ite_some h
      obtain ⟨g_19, h⟩ := ite_some h
      obtain ⟨g_20, h⟩ := ite_some h
      exact RunC.go [.n 2, .r [(3, .dec false)], .n 2, .r [(7, .obj (oL true 46 5 cCached dCached (subL out13 0 oldest16 ++ subL out13 (IntKind.i64.wrap (oldest16 + 1)) ((out13).length : Int))))], .n 5, .k [2, 4, 5, 13, 14, 18]] (by kernel_rfl) (Obs.of (by kernel_rfl) (And.intro (nt g_14) (And.intro g_18 (And.intro g_19 (And.intro g_20 (le_appSS 46 5 cCached dCached out13 out13 oldest16 (IntKind.i64.wrap (oldest16 + 1)) ((out13).length : Int) g_18 g_19)))))) (cache_Lookup.p3.run k _ _ _ _ _ _ r h)
theorem cache_Lookup.p1.run   : ∀ (k : Nat) (rows2 : (List TEntry)) (day4 : Int) (i15 : Int) (c5b : TCache) (out13 : (List TCached)) (want14b : TValue) (r : ((List TCached) × (List TEntry) × Int)), cache_Lookup.p1 k rows2 day4 i15 c5b out13 want14b = some r → RunC Try.prog Try.f17 cache_Lookup.p1.t (cache_Lookup.p1.s rows2 day4 i15 c5b out13 want14b) (.tup [.sref 0 46 5 (r.1).length, .sref 1 36 2 (r.2.1).length, .p (.int .i64 r.2.2)]) [(oL true 46 5 cCached dCached (r.1)), (oL true 36 2 cEntry dEntry (r.2.1))] := by
  intro k
  induction k with
  | zero => intro rows2 day4 i15 c5b out13 want14b r h; simp [cache_Lookup.p1] at h
  | succ k ih =>
    intro rows2 day4 i15 c5b out13 want14b r h
    rw [cache_Lookup.p1] at h
    rcases ite_or h with ⟨g_8, h⟩ | ⟨g_8, h⟩
    · obtain ⟨g_9, h⟩ := ite_some h
      rcases ite_or h with ⟨g_10, h⟩ | ⟨g_10, h⟩
      · obtain ⟨y_11, e_12, h⟩ := bind_or h
        obtain rfl := Option.some.inj h
        exact RunC.out [.n 2, .r [(3, .dec true)], .n 5, .r [(6, .dec true)], .n 2, .r [(6, .call (.sref 0 36 2 (y_11).length) [(oL true 36 2 cEntry dEntry y_11)])]] (by kernel_rfl) (Obs.of (by kernel_rfl) (And.intro g_8 (And.intro g_9 (And.intro g_10 (And.intro g_9 (cache_copied.spec e_12))))))
      · exact RunC.go [.n 2, .r [(3, .dec true)], .n 5, .r [(6, .dec false)], .n 5, .k [2, 4, 5, 13, 14, 15]] (by kernel_rfl) (Obs.of (by kernel_rfl) (And.intro g_8 (And.intro g_9 (nt g_10)))) (ih _ _ _ _ _ _ r h)
    · rcases ite_or h with ⟨g_13, h⟩ | ⟨g_13, h⟩
      · exact RunC.go [.n 2, .r [(3, .dec false)], .n 4, .r [(2, .dec true)], .n 8, .k [2, 4, 5, 13, 14, 16, 17]] (by kernel_rfl) (Obs.of (by kernel_rfl) (And.intro (nt g_8) g_13)) (cache_Lookup.p2.run k _ _ _ _ _ _ _ r h)
      · exact RunC.go [.n 2, .r [(3, .dec false)], .n 4, .r [(2, .dec false)], .n 7, .k [2, 4, 5, 13, 14, 18]] (by kernel_rfl) (Obs.of (by kernel_rfl) (And.intro (nt g_8) (nt g_13))) (cache_Lookup.p3.run k _ _ _ _ _ _ r h)
theorem cache_Lookup.run   {k : Nat} {c0 : TCache} {s1 : (List TCached)} {rows2 : (List TEntry)} {v3 : TValue} {day4 : Int} {r : ((List TCached) × (List TEntry) × Int)} (h : cache_Lookup k c0 s1 rows2 v3 day4 = some r) : RunC Try.prog Try.f17 cache_Lookup.t (cache_Lookup.s c0 s1 rows2 v3 day4) (.tup [.sref 0 46 5 (r.1).length, .sref 1 36 2 (r.2.1).length, .p (.int .i64 r.2.2)]) [(oL true 46 5 cCached dCached (r.1)), (oL true 36 2 cEntry dEntry (r.2.1))] := by
  unfold cache_Lookup at h
  obtain ⟨y_1, e_2, h⟩ := bind_or h
  rcases ite_or h with ⟨g_3, h⟩ | ⟨g_3, h⟩
  · obtain rfl := Option.some.inj h
    exact RunC.out [.n 1, .r [(2, .obj (oL true 46 5 cCached dCached ([] : List TCached))), (3, .obj (oL true 36 2 cEntry dEntry ([] : List TEntry)))], .n 2, .r [(4, .call (.p (.bool y_1)) []), (5, .dec true)], .n 2, .r [(0, .obj (oL true 46 5 cCached dCached ([] : List TCached))), (1, .obj (oL true 36 2 cEntry dEntry ([] : List TEntry)))]] (by kernel_rfl) (Obs.of (by kernel_rfl) (And.intro (le_nil 46 5 cCached dCached) (And.intro (le_nil 36 2 cEntry dEntry) (And.intro (cache_usable.spec e_2) (And.intro g_3 (And.intro (le_nil 46 5 cCached dCached) (le_nil 36 2 cEntry dEntry)))))))
  · obtain ⟨y_4, e_5, h⟩ := bind_or h
    obtain ⟨y_6, e_7, h⟩ := bind_or h
    exact RunC.go [.n 1, .r [(2, .obj (oL true 46 5 cCached dCached ([] : List TCached))), (3, .obj (oL true 36 2 cEntry dEntry ([] : List TEntry)))], .n 2, .r [(4, .call (.p (.bool y_1)) []), (5, .dec false)], .n 3, .r [(3, .call (.sref 0 46 5 (y_4).length) [(oL true 46 5 cCached dCached y_4)])], .n 1, .r [(1, .call (.agg ((cValue y_6).map .p)) [])], .n 5, .k [2, 4, 5, 13, 14, 15]] (by kernel_rfl) (Obs.of (by kernel_rfl) (And.intro (le_nil 46 5 cCached dCached) (And.intro (le_nil 36 2 cEntry dEntry) (And.intro (cache_usable.spec e_2) (And.intro (nt g_3) (And.intro (cache_Expire.spec e_5) (value_Clean.spec e_7))))))) (cache_Lookup.p1.run k _ _ _ _ _ _ r h)
theorem cache_Lookup.p3.mono   : ∀ (k k' : Nat) (rows2 : (List TEntry)) (day4 : Int) (i18 : Int) (c5b : TCache) (out13 : (List TCached)) (want14b : TValue) (r : ((List TCached) × (List TEntry) × Int)), k ≤ k' → cache_Lookup.p3 k rows2 day4 i18 c5b out13 want14b = some r → cache_Lookup.p3 k' rows2 day4 i18 c5b out13 want14b = some r := by
  intro k
  induction k with
  | zero => intro k' rows2 day4 i18 c5b out13 want14b r hk h; simp [cache_Lookup.p3] at h
  | succ k ih =>
    intro k' rows2 day4 i18 c5b out13 want14b r hk h
    obtain ⟨k', rfl⟩ : ∃ m, k' = m + 1 := ⟨k' - 1, by omega⟩
    replace hk := Nat.le_of_succ_le_succ hk
    rw [cache_Lookup.p3] at h ⊢
    rcases ite_or h with ⟨g_21, h⟩ | ⟨g_21, h⟩
    · refine itp g_21 ?_
      obtain ⟨g_22, h⟩ := ite_some h
      refine itp g_22 ?_
      obtain ⟨y_23, e_24, h⟩ := bind_or h
      refine bnd (value_Compare.mono _ _ _ _ _ hk e_24) ?_
      rcases ite_or h with ⟨g_25, h⟩ | ⟨g_25, h⟩
      · refine itp g_25 ?_
        exact ih _ _ _ _ _ _ _ r hk h
      · refine itn g_25 ?_
        obtain ⟨g_26, h⟩ := ite_some h
        refine itp g_26 ?_
        obtain ⟨g_27, h⟩ := ite_some h
        refine itp g_27 ?_
        obtain ⟨g_28, h⟩ := ite_some h
        refine itp g_28 ?_
        obtain ⟨y_29, e_30, h⟩ := bind_or h
        refine bnd (cache_Select.mono _ _ _ _ _ _ hk e_30) ?_
        obtain ⟨g_31, h⟩ := ite_some h
        refine itp g_31 ?_
        obtain ⟨y_32, e_33, h⟩ := bind_or h
        refine bnd (cache_copied.mono _ _ _ _ hk e_33) ?_
        exact h
    · refine itn g_21 ?_
      obtain ⟨g_34, h⟩ := ite_some h
      refine itp g_34 ?_
      obtain ⟨g_35, h⟩ := ite_some h
      refine itp g_35 ?_
      obtain ⟨g_36, h⟩ := ite_some h
      refine itp g_36 ?_
      obtain ⟨y_37, e_38, h⟩ := bind_or h
      refine bnd (cache_Select.mono _ _ _ _ _ _ hk e_38) ?_
      obtain ⟨g_39, h⟩ := ite_some h
      refine itp g_39 ?_
      obtain ⟨y_40, e_41, h⟩ := bind_or h
      refine bnd (cache_copied.mono _ _ _ _ hk e_41) ?_
      exact h
theorem cache_Lookup.p2.mono   : ∀ (k k' : Nat) (rows2 : (List TEntry)) (day4 : Int) (oldest16 : Int) (i17 : Int) (c5b : TCache) (out13 : (List TCached)) (want14b : TValue) (r : ((List TCached) × (List TEntry) × Int)), k ≤ k' → cache_Lookup.p2 k rows2 day4 oldest16 i17 c5b out13 want14b = some r → cache_Lookup.p2 k' rows2 day4 oldest16 i17 c5b out13 want14b = some r := by
  intro k
  induction k with
  | zero => intro k' rows2 day4 oldest16 i17 c5b out13 want14b r hk h; simp [cache_Lookup.p2] at h
  | succ k ih =>
    intro k' rows2 day4 oldest16 i17 c5b out13 want14b r hk h
    obtain ⟨k', rfl⟩ : ∃ m, k' = m + 1 := ⟨k' - 1, by omega⟩
    replace hk := Nat.le_of_succ_le_succ hk
    rw [cache_Lookup.p2] at h ⊢
    rcases ite_or h with ⟨g_14, h⟩ | ⟨g_14, h⟩
    · refine itp g_14 ?_
      obtain ⟨g_15, h⟩ := ite_some h
      refine itp g_15 ?_
      obtain ⟨g_16, h⟩ := ite_some h
      refine itp g_16 ?_
      rcases ite_or h with ⟨g_17, h⟩ | ⟨g_17, h⟩
      · refine itp g_17 ?_
        exact ih _ _ _ _ _ _ _ _ r hk h
      · refine itn g_17 ?_
        exact ih _ _ _ _ _ _ _ _ r hk h
    · refine itn g_14 ?_
      obtain ⟨g_18, h⟩ := ite_some h
      refine itp g_18 ?_
      obtain ⟨g_19, h⟩ := ite_some h
      refine itp g_19 ?_
      obtain ⟨g_20, h⟩ := ite_some h
      refine itp g_20 ?_
      exact cache_Lookup.p3.mono _ _ _ _ _ _ _ _ r hk h
theorem cache_Lookup.p1.mono   : ∀ (k k' : Nat) (rows2 : (List TEntry)) (day4 : Int) (i15 : Int) (c5b : TCache) (out13 : (List TCached)) (want14b : TValue) (r : ((List TCached) × (List TEntry) × Int)), k ≤ k' → cache_Lookup.p1 k rows2 day4 i15 c5b out13 want14b = some r → cache_Lookup.p1 k' rows2 day4 i15 c5b out13 want14b = some r := by
  intro k
  induction k with
  | zero => intro k' rows2 day4 i15 c5b out13 want14b r hk h; simp [cache_Lookup.p1] at h
  | succ k ih =>
    intro k' rows2 day4 i15 c5b out13 want14b r hk h
    obtain ⟨k', rfl⟩ : ∃ m, k' = m + 1 := ⟨k' - 1, by omega⟩
    replace hk := Nat.le_of_succ_le_succ hk
    rw [cache_Lookup.p1] at h ⊢
    rcases ite_or h with ⟨g_8, h⟩ | ⟨g_8, h⟩
    · refine itp g_8 ?_
      obtain ⟨g_9, h⟩ := ite_some h
      refine itp g_9 ?_
      rcases ite_or h with ⟨g_10, h⟩ | ⟨g_10, h⟩
      · refine itp g_10 ?_
        obtain ⟨y_11, e_12, h⟩ := bind_or h
        refine bnd (cache_copied.mono _ _ _ _ hk e_12) ?_
        exact h
      · refine itn g_10 ?_
        exact ih _ _ _ _ _ _ _ r hk h
    · refine itn g_8 ?_
      rcases ite_or h with ⟨g_13, h⟩ | ⟨g_13, h⟩
      · refine itp g_13 ?_
        exact cache_Lookup.p2.mono _ _ _ _ _ _ _ _ _ r hk h
      · refine itn g_13 ?_
        exact cache_Lookup.p3.mono _ _ _ _ _ _ _ _ r hk h
theorem cache_Lookup.mono   : ∀ (k k' : Nat) (c0 : TCache) (s1 : (List TCached)) (rows2 : (List TEntry)) (v3 : TValue) (day4 : Int) (r : ((List TCached) × (List TEntry) × Int)), k ≤ k' → cache_Lookup k c0 s1 rows2 v3 day4 = some r → cache_Lookup k' c0 s1 rows2 v3 day4 = some r := by
  intro k k' c0 s1 rows2 v3 day4 r hk h
  unfold cache_Lookup at h ⊢
  obtain ⟨y_1, e_2, h⟩ := bind_or h
  refine bnd (cache_usable.mono _ _ _ _ _ _ _ hk e_2) ?_
  rcases ite_or h with ⟨g_3, h⟩ | ⟨g_3, h⟩
  · refine itp g_3 ?_
    exact h
  · refine itn g_3 ?_
    obtain ⟨y_4, e_5, h⟩ := bind_or h
    refine bnd (cache_Expire.mono _ _ _ _ _ _ hk e_5) ?_
    obtain ⟨y_6, e_7, h⟩ := bind_or h
    refine bnd (value_Clean.mono _ _ _ _ hk e_7) ?_
    exact cache_Lookup.p1.mono _ _ _ _ _ _ _ _ r hk h
theorem cache_Lookup.spec {k : Nat} {c0 : TCache} {s1 : (List TCached)} {rows2 : (List TEntry)} {v3 : TValue} {day4 : Int} {r : ((List TCached) × (List TEntry) × Int)} (h : cache_Lookup k c0 s1 rows2 v3 day4 = some r) : Spec Try.prog 17 [.agg ((cCache c0).map .p), .p (eL 5 cCached dCached s1), .p (eL 2 cEntry dEntry rows2), .agg ((cValue v3).map .p), .p (.int .i64 day4)] (.tup [.sref 0 46 5 (r.1).length, .sref 1 36 2 (r.2.1).length, .p (.int .i64 r.2.2)]) [(oL true 46 5 cCached dCached (r.1)), (oL true 36 2 cEntry dEntry (r.2.1))] :=
  spec_of mix Try.func17 (body := bodyOf Try.f17) (by kernel_rfl) (by kernel_rfl) (cache_Lookup.run h)
end Go.Proofs.YtjhnpaenhdbhpabV
