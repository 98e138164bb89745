/- Part of the proof of CacheFresh: printed by programs of this repo out of the translation, and by hand. Each theorem's conditions stand in its statement. -/
import Derived.DeepKeys3
import Derived.MapKept
import Derived.Orders
import Derived.Below
import Derived.Laws.AppendOwn
import Derived.Laws.OwnMore
import Derived.KernelRfl
import Derived.Laws.IdiomStrings
import Derived.Laws.BytesString
import Derived.Test.YtjhnpaenhdbhpacProg
import Derived.Test.YtjhnpaenhdbhpacMCacheFresha
set_option linter.unusedVariables false
set_option linter.unusedSimpArgs false
set_option linter.constructorNameAsVariable false
namespace Go.Proofs.YtjhnpaenhdbhpacV
open Go Go.RowKit
def AV.val : AV → Value
  | .bool b => .bool b
  | .int k n => .int k n
  | .str s => .string s
  | _ => undef
def PV.val : PV → Value
  | .one a => a.val
  | .many l => .agg (l.map AV.val).toArray
def sameA : AV → AV → Bool
  | .bool a, .bool b => a == b
  | .int k a, .int k' b => decide (k = k') && (a == b)
  | .str a, .str b => a.data.toList == b.data.toList
  | _, _ => false
def sameL : List AV → List AV → Bool
  | [], [] => true
  | a :: l, b :: m => sameA a b && sameL l m
  | _, _ => false
def sameP : PV → PV → Bool
  | .one a, .one b => sameA a b
  | .many l, .many m => sameL l m
  | _, _ => false
def litT (P : Program) (t : TypeId) (a : AV) : Bool :=
  match a with
  | .int k _ => match P.underlying t with
    | some (.int q) => decide (q = k)
    | _ => false
  | .str _ => match P.underlying t with
    | some .string => true
    | _ => false
  | .bool _ => match P.underlying t with
    | some .bool => true
    | _ => false
  | _ => false
def fieldsK (P : Program) : List Field → Nat → List AV → Bool
  | [], _, [] => true
  | f :: fs, o, a :: l => decide (f.offset = o) && !(f.name == "_") && litT P f.type a && fieldsK P fs (o + 1) l
  | _, _, _ => false
def keyOK (P : Program) (t : TypeId) (x : PV) : Bool :=
  match x with
  | .one a => litT P t a
  | .many l => match P.underlying t with
    | some (.struct fs) => fieldsK P fs.toList 0 l && !P.stoodInHeld t
    | some (.array n e) => decide (l.length = n) && l.all (litT P e) && (match P.info? e with | some i => decide (i.size = 1) | none => false)
    | _ => false
theorem litT_rep {P : Program} {t : TypeId} {a : AV} (h : litT P t a = true) (F : Nat → Prop) (w : World) (v : Value) : Rep F w a v ↔ v = a.val := by
  cases a <;> simp_all [litT, Rep, AV.val]
theorem sameA_val {P : Program} {t : TypeId} {a b : AV} (ha : litT P t a = true) (h : sameA a b = true) : a.val = b.val := by
  cases a <;> cases b <;> simp_all [litT, sameA, AV.val]
  rename_i x y
  cases x; cases y
  simp_all
theorem toList_beq (a b : ByteArray) : (a == b) = (a.data.toList == b.data.toList) := by
  rw [Bool.eq_iff_iff, Go.MapKept.bytes_beq, beq_iff_eq]
  constructor
  · rintro rfl; rfl
  · intro h
    cases a; cases b
    simp_all
theorem litT_isAgg {P : Program} {t : TypeId} {a : AV} (h : litT P t a = true) (w : World) : (isAgg t).run P w = .ok false w := by
  cases a <;> simp only [litT] at h <;> (try cases h) <;> (split at h <;> first | (rename_i hu; simp [isAgg, run_underlying hu]; done) | cases h)
theorem litT_equal {P : Program} {t : TypeId} {a b : AV} (ha : litT P t a = true) (hb : litT P t b = true) (w : World) (d : Nat) : (Op.equalIn (d + 1) t a.val b.val).run P w = .ok (sameA a b) w := by
  cases a <;> simp only [litT] at ha <;> (try cases ha) <;> (split at ha <;> first | (cases ha; done) | skip) <;> rename_i hu <;> cases b <;> simp only [litT, hu] at hb <;> (try cases hb)
  · simp [Op.equalIn, run_underlying hu, AV.val, sameA]
  · simp only [decide_eq_true_eq] at ha hb
    subst ha
    subst hb
    simp [Op.equalIn, run_underlying hu, AV.val, sameA]
  · simp [Op.equalIn, run_underlying hu, AV.val, sameA, toList_beq]
theorem litT_check {P : Program} {t : TypeId} {a : AV} (ha : litT P t a = true) (w : World) (em : Bool) (d : Nat) : (Instr.checkKey em (d + 1) t a.val).run P w = .ok () w := by
  cases a <;> simp only [litT] at ha <;> (try cases ha) <;> (split at ha <;> first | (cases ha; done) | skip) <;> rename_i hu <;> simp [Instr.checkKey, run_underlying hu, AV.val]
theorem litT_now {P : Program} {t : TypeId} {d : TypeDesc} {a b : AV} (hu : P.underlying t = some d) (ha : litT P t a = true) (hb : litT P t b = true) : Instr.sameNow d a.val b.val = some (sameA a b) := by
  cases a <;> simp only [litT, hu] at ha <;> (try cases ha) <;> (split at ha <;> first | (cases ha; done) | skip) <;> rename_i he <;> injection he with he <;> subst he <;> cases b <;> simp only [litT, hu] at hb <;> (try cases hb)
  · simp [Instr.sameNow, AV.val, sameA]
  · simp only [decide_eq_true_eq] at ha hb
    subst ha
    subst hb
    simp [Instr.sameNow, AV.val, sameA]
  · simp [Instr.sameNow, AV.val, sameA, toList_beq]
theorem part_at {P : Program} {t : TypeId} {a : AV} (h : litT P t a = true) (w : World) {X : Array Value} {o : Nat} {v : Value} (hX : X[o]? = some v) : (part t X o).run P w = .ok v w := by
  simp [part, litT_isAgg h, hX]
theorem fieldsK_equal {P : Program} {w : World} {d : Nat} {X Y : Array Value} : ∀ (fs : List Field) (o : Nat) (l m : List AV), fieldsK P fs o l = true → fieldsK P fs o m = true → X.toList.drop o = l.map AV.val → Y.toList.drop o = m.map AV.val →
    (Op.eqFields (d + 1) X Y fs).run P w = .ok (sameL l m) w
  | [], o, l, m, h1, h2, hx, hy => by
    cases l <;> cases m <;> simp [fieldsK] at h1 h2
    simp [Op.eqFields, sameL]
  | f :: fs, o, l, m, h1, h2, hx, hy => by
    cases l with
    | nil => simp [fieldsK] at h1
    | cons a l =>
      cases m with
      | nil => simp [fieldsK] at h2
      | cons b m =>
        simp only [fieldsK, Bool.and_eq_true, decide_eq_true_eq, Bool.not_eq_true'] at h1 h2
        obtain ⟨⟨⟨ho, hn⟩, ha⟩, hl⟩ := h1
        obtain ⟨⟨_, hb⟩, hm⟩ := h2
        have ih := fieldsK_equal (w := w) (d := d) (X := X) (Y := Y) fs (o + 1) l m hl hm (by rw [← List.drop_drop, hx]; simp) (by rw [← List.drop_drop, hy]; simp)
        have hX : X[o]? = some a.val := by
          have := congrArg (fun l => l[0]?) hx
          simpa using this
        have hY : Y[o]? = some b.val := by
          have := congrArg (fun l => l[0]?) hy
          simpa using this
        have hn' : f.name ≠ "_" := by simpa using hn
        rw [Op.eqFields]
        simp only [if_pos hn', Sem.run_bind, ho, part_at ha w hX, part_at hb w hY, Result.andThen_ok, litT_equal ha hb w d]
        cases hs : sameA a b
        · simp [sameL, hs]
        · simpa [sameL, hs] using ih
theorem items_equal {P : Program} {w : World} {d : Nat} {e : TypeId} {X Y : Array Value} : ∀ (l m : List AV) (o : Nat), l.all (litT P e) = true → m.all (litT P e) = true → l.length = m.length → X.toList.drop o = l.map AV.val → Y.toList.drop o = m.map AV.val →
    (Op.eqItems (d + 1) e 1 X Y (List.range' o l.length)).run P w = .ok (sameL l m) w
  | [], m, o, _, _, hl, _, _ => by
    cases m with
    | nil => simp [Op.eqItems, sameL]
    | cons b m => simp at hl
  | a :: l, m, o, h1, h2, hl, hx, hy => by
    cases m with
    | nil => simp at hl
    | cons b m =>
      simp only [List.all_cons, Bool.and_eq_true] at h1 h2
      have ih := items_equal (w := w) (d := d) (X := X) (Y := Y) l m (o + 1) h1.2 h2.2 (by simpa using hl) (by rw [← List.drop_drop, hx]; simp) (by rw [← List.drop_drop, hy]; simp)
      have hX : X[o]? = some a.val := by
        have := congrArg (fun l => l[0]?) hx
        simpa using this
      have hY : Y[o]? = some b.val := by
        have := congrArg (fun l => l[0]?) hy
        simpa using this
      rw [List.length_cons, List.range'_succ]
      simp only [Op.eqItems, Nat.mul_one, Sem.run_bind, part_at h1.1 w hX, part_at h2.1 w hY, Result.andThen_ok, litT_equal h1.1 h2.1 w d]
      cases hs : sameA a b
      · simp [sameL, hs]
      · simpa [sameL, hs] using ih
theorem key_equal {P : Program} {t : TypeId} {l m : List AV} (hx : keyOK P t (.many l) = true) (hy : keyOK P t (.many m) = true) (w : World) : (Op.equal t (PV.many l).val (PV.many m).val).run P w = .ok (sameL l m) w := by
  unfold keyOK at hx hy
  dsimp only at hx hy
  unfold Op.equal Op.maxDepth
  split at hx
  · rename_i fs hu
    rw [hu] at hy
    simp only [Bool.and_eq_true, Bool.not_eq_true'] at hx hy
    have hfo : P.fieldsOf t = fs := by simp [Program.fieldsOf, hu]
    show (Op.equalIn 10000 t (.agg _) (.agg _)).run P w = _
    rw [run_equalIn_struct (P := P) w 9999 t _ _ (by rw [hfo]; exact hu) hx.2, hfo]
    exact fieldsK_equal fs.toList 0 l m hx.1 hy.1 rfl rfl
  · rename_i n e hu
    rw [hu] at hy
    simp only [Bool.and_eq_true, decide_eq_true_eq] at hx hy
    obtain ⟨⟨rfl, hl⟩, hi⟩ := hx
    obtain ⟨⟨hlen, hm⟩, _⟩ := hy
    split at hi
    · rename_i i hi'
      have hi1 : i.size = 1 := of_decide_eq_true hi
      show (Op.equalIn (9999 + 1) t (.agg _) (.agg _)).run P w = _
      have hc : P.cellsOf e = 1 := by simp [Program.cellsOf, hi', hi1]
      rw [run_equalIn_array w 9999 _ _ hu hi', hc, List.range_eq_range']
      exact items_equal l m 0 hl hm hlen.symm rfl rfl
    · cases hi
  · cases hx
theorem key_check {P : Program} {t : TypeId} {x : PV} (hx : keyOK P t x = true) (w : World) (em : Bool) : (Instr.checkKey em 10000 t x.val).run P w = .ok () w := by
  cases x with
  | one a => exact litT_check (by simpa [keyOK] using hx) w em 9999
  | many l =>
    unfold keyOK at hx
    dsimp only at hx
    split at hx
    · rename_i fs hu
      simp only [Bool.and_eq_true, Bool.not_eq_true'] at hx
      show (Instr.checkKey em (9999 + 1) t (.agg _)).run P w = _
      rw [Instr.checkKey]
      simp only [Sem.run_bind, run_underlying hu, Result.andThen_ok]
      rw [← Array.forIn_toList]
      obtain ⟨L, hL⟩ : ∃ L, L = fs.toList := ⟨_, rfl⟩
      have h1 : ∃ o m, fieldsK P L o m = true ∧ ((l.map AV.val).toArray).toList.drop o = m.map AV.val := ⟨0, l, by rw [hL]; exact hx.1, rfl⟩
      rw [← hL]
      clear hL
      induction L with
      | nil => simp
      | cons f L ih =>
        obtain ⟨o, m, h1, h2⟩ := h1
        cases m with
        | nil => simp [fieldsK] at h1
        | cons a m =>
          simp only [fieldsK, Bool.and_eq_true, decide_eq_true_eq, Bool.not_eq_true'] at h1
          obtain ⟨⟨⟨ho, hn⟩, ha⟩, hl⟩ := h1
          have hX : ((l.map AV.val).toArray)[o]? = some a.val := by
            have := congrArg (fun l => l[0]?) h2
            simpa using this
          have hn' : f.name ≠ "_" := by simpa using hn
          simp only [List.forIn_cons, Sem.run_bind, if_pos hn', ho, part_at ha w hX, Result.andThen_ok, litT_check ha w em 9998, Sem.run_pure]
          exact ih ⟨o + 1, m, hl, by rw [← List.drop_drop, h2]; simp⟩
    · rename_i n e hu
      simp only [Bool.and_eq_true, decide_eq_true_eq] at hx
      obtain ⟨⟨rfl, hl⟩, hi⟩ := hx
      split at hi
      · rename_i i hi'
        have hi1 : i.size = 1 := of_decide_eq_true hi
        show (Instr.checkKey em (9999 + 1) t (.agg _)).run P w = _
        rw [Instr.checkKey]
        simp only [Sem.run_bind, run_underlying hu, Result.andThen_ok]
        simp only [Std.Legacy.Range.forIn_eq_forIn_range', Std.Legacy.Range.size, Nat.sub_zero, Nat.add_one_sub_one, Nat.div_one]
        have hc : P.cellsOf e = 1 := by simp [Program.cellsOf, hi', hi1]
        have h1 : ∃ (m : List AV) (o : Nat), m.all (litT P e) = true ∧ ((l.map AV.val).toArray).toList.drop o = m.map AV.val ∧ List.range' 0 l.length = List.range' o m.length := ⟨l, 0, hl, rfl, rfl⟩
        generalize List.range' 0 l.length = is at h1
        induction is with
        | nil => simp
        | cons j is ih =>
          obtain ⟨m, o, h1, h2, h3⟩ := h1
          cases m with
          | nil => simp at h3
          | cons a m =>
            rw [List.length_cons, List.range'_succ, List.cons.injEq] at h3
            obtain ⟨rfl, h3⟩ := h3
            simp only [List.all_cons, Bool.and_eq_true] at h1
            have hX : ((l.map AV.val).toArray)[j]? = some a.val := by
              have := congrArg (fun l => l[0]?) h2
              simpa using this
            simp only [List.forIn_cons, Sem.run_bind, run_sizeOf w hi', hc, Nat.mul_one, Result.andThen_ok, part_at h1.1 w hX, litT_check h1.1 w em 9998, Sem.run_pure]
            exact ih ⟨m, j + 1, h1.2, by rw [← List.drop_drop, h2]; simp, h3⟩
      · cases hi
    · cases hx
def findP (x : PV) : List PV → Option Nat
  | [] => none
  | y :: ys => if sameP x y then some 0 else (findP x ys).map (· + 1)
theorem findP_some {x : PV} : ∀ {ks : List PV} {i : Nat}, findP x ks = some i → ∃ y, ks[i]? = some y ∧ sameP x y = true
  | [], i, h => by simp [findP] at h
  | y :: ys, i, h => by
    simp only [findP] at h
    split at h
    · rename_i hs
      injection h with h
      subst h
      exact ⟨y, rfl, hs⟩
    · cases hf : findP x ys with
      | none => simp [hf] at h
      | some j =>
        simp only [hf, Option.map_some, Option.some.injEq] at h
        subst h
        obtain ⟨z, h1, h2⟩ := findP_some hf
        exact ⟨z, by simpa using h1, h2⟩
theorem findAsking_ok {P : Program} {w : World} {kt : TypeId} {x : PV} {v : Value} : ∀ (ks : List PV) (es : List MapEntry) (i : Nat), (∀ y ∈ ks, (Op.equal kt v y.val).run P w = .ok (sameP x y) w) → es.map (·.key) = ks.map PV.val →
    (Instr.findAsking kt v es i).run P w = .ok ((findP x ks).map fun j => (i + j, ((es[j]?).map (·.val)).getD undef)) w
  | [], es, i, _, h => by
    cases es with
    | nil => simp [Instr.findAsking, findP]
    | cons e es => simp at h
  | y :: ks, es, i, he, h => by
    cases es with
    | nil => simp at h
    | cons e es =>
      simp only [List.map_cons, List.cons.injEq] at h
      have h1 := he y (List.mem_cons_self ..)
      have ih := findAsking_ok ks es (i + 1) (fun z hz => he z (List.mem_cons_of_mem _ hz)) h.2
      rw [Instr.findAsking]
      simp only [Sem.run_bind, h.1, h1, Result.andThen_ok]
      cases hs : sameP x y
      · simp only [findP, hs, Bool.false_eq_true, if_false]
        rw [ih]
        cases findP x ks with
        | none => rfl
        | some j => simp; omega
      · simp [findP, hs]
theorem findNow_ok {P : Program} {kt : TypeId} {d : TypeDesc} (hu : P.underlying kt = some d) {a : AV} (ha : litT P kt a = true) : ∀ (ks : List PV) (es : List MapEntry) (i : Nat), (∀ y ∈ ks, keyOK P kt y = true) → es.map (·.key) = ks.map PV.val →
    Instr.findNow d a.val es i = some ((findP (.one a) ks).map fun j => (i + j, ((es[j]?).map (·.val)).getD undef))
  | [], es, i, _, h => by
    cases es with
    | nil => simp [Instr.findNow, findP]
    | cons e es => simp at h
  | y :: ks, es, i, he, h => by
    cases es with
    | nil => simp at h
    | cons e es =>
      simp only [List.map_cons, List.cons.injEq] at h
      have ih := findNow_ok hu ha ks es (i + 1) (fun z hz => he z (List.mem_cons_of_mem _ hz)) h.2
      have hy := he y (List.mem_cons_self ..)
      cases y with
      | many l =>
        exfalso
        simp only [keyOK, hu] at hy
        cases a <;> simp only [litT, hu] at ha <;> (try cases ha) <;> (split at ha <;> first | (rename_i he2; injection he2 with he2; subst he2; simp at hy; done) | cases ha)
      | one b =>
        have hn := litT_now hu ha (by simpa [keyOK] using hy : litT P kt b = true)
        rw [Instr.findNow, h.1]
        show (match Instr.sameNow d a.val b.val with
          | some true => some (some (i, e.val))
          | some false => Instr.findNow d a.val es (i + 1)
          | none => none) = _
        rw [hn]
        cases hs : sameA a b
        · have hf : sameP (.one a) (.one b) = false := hs
          simp only [findP, hf, Bool.false_eq_true, if_false]
          rw [ih]
          cases findP (.one a) ks with
          | none => rfl
          | some j => simp; omega
        · have hf : sameP (.one a) (.one b) = true := hs
          simp [findP, hf]
theorem find_ok {P : Program} {w : World} {kt : TypeId} {x : PV} {ks : List PV} {es : List MapEntry} (hx : keyOK P kt x = true) (hk : ∀ y ∈ ks, keyOK P kt y = true) (h : es.map (·.key) = ks.map PV.val) :
    (Instr.findKey kt x.val es).run P w = .ok ((findP x ks).map fun j => (j, ((es[j]?).map (·.val)).getD undef)) w := by
  cases x with
  | one a =>
    have ha : litT P kt a = true := by simpa [keyOK] using hx
    obtain ⟨d, hu⟩ : ∃ d, P.underlying kt = some d := by
      cases hu : P.underlying kt with
      | none => cases a <;> simp [litT, hu] at ha
      | some d => exact ⟨d, rfl⟩
    have hn := findNow_ok hu ha ks es 0 hk h
    rw [Go.MapKept.run_findKey hu (show Instr.findNow d (PV.one a).val es 0 = _ from hn)]
    simp
  | many l =>
    have hwide : (match P.underlying kt with | some (.array _ _) | some (.struct _) => true | _ => false) = true := by
      simp only [keyOK] at hx
      split at hx <;> first | (rename_i hu; simp [hu]; done) | cases hx
    rw [run_findKey_eq w hwide]
    have := findAsking_ok (P := P) (w := w) (kt := kt) (x := .many l) (v := (PV.many l).val) ks es 0 (fun y hy => ?_) h
    · simpa using this
    · have hy' := hk y hy
      cases y with
      | one b =>
        exfalso
        simp only [keyOK] at hy'
        cases b <;> simp only [litT] at hy' <;> (try cases hy') <;> (split at hy' <;> first | (rename_i hu; simp [hu] at hwide; done) | cases hy')
      | many m => exact key_equal hx hy' w
theorem fieldsK_rep {P : Program} {c : Cx} : ∀ (fs : List Field) (o : Nat) (l : List AV) (vs : List Value), fieldsK P fs o l = true → RelVs c (l.map .p) vs → vs = l.map AV.val
  | [], o, l, vs, h, r => by cases l <;> simp [fieldsK] at h; simpa [RelVs] using r
  | f :: fs, o, l, vs, h, r => by
    cases l with
    | nil => simp [fieldsK] at h
    | cons a l =>
      simp only [fieldsK, Bool.and_eq_true] at h
      simp only [List.map_cons, RelVs] at r
      obtain ⟨v, vs', rfl, h1, h2⟩ := r
      simp only [RelV] at h1
      rw [(litT_rep h.1.2 _ _ _).1 h1, fieldsK_rep fs (o + 1) l vs' h.2 h2]
      rfl
theorem key_rep {P : Program} {t : TypeId} {x : PV} (hx : keyOK P t x = true) {c : Cx} {v : Value} (r : RelV c x.fv v) : v = x.val := by
  cases x with
  | one a =>
    simp only [PV.fv, RelV] at r
    exact (litT_rep (by simpa [keyOK] using hx) _ _ _).1 r
  | many l =>
    simp only [PV.fv, RelV] at r
    obtain ⟨vs, rfl, h⟩ := r
    have : vs.toList = l.map AV.val := by
      simp only [keyOK] at hx
      split at hx
      · simp only [Bool.and_eq_true] at hx
        exact fieldsK_rep _ _ _ _ hx.1 h
      · simp only [Bool.and_eq_true] at hx
        have hl := hx.1.2
        clear hx
        generalize vs.toList = us at h
        induction l generalizing us with
        | nil => simpa [RelVs] using h
        | cons a l ih =>
          simp only [List.map_cons, RelVs] at h
          obtain ⟨v, vs', rfl, h1, h2⟩ := h
          simp only [List.all_cons, Bool.and_eq_true] at hl
          simp only [RelV] at h1
          rw [(litT_rep hl.1 _ _ _).1 h1, ih hl.2 _ h2]
          rfl
      · cases hx
    simp [PV.val, ← this]
theorem sameL_val {P : Program} : ∀ {l m : List AV}, (∀ a ∈ l, ∃ t, litT P t a = true) → sameL l m = true → l.map AV.val = m.map AV.val
  | [], [], _, _ => rfl
  | [], b :: m, _, h => by simp [sameL] at h
  | a :: l, [], _, h => by simp [sameL] at h
  | a :: l, b :: m, ha, h => by
    simp only [sameL, Bool.and_eq_true] at h
    obtain ⟨t, ht⟩ := ha a (List.mem_cons_self ..)
    rw [List.map_cons, List.map_cons, sameA_val ht h.1, sameL_val (fun x hx => ha x (List.mem_cons_of_mem _ hx)) h.2]
theorem fieldsK_lit {P : Program} : ∀ {fs : List Field} {o : Nat} {l : List AV}, fieldsK P fs o l = true → ∀ a ∈ l, ∃ t, litT P t a = true
  | [], o, l, h, a, ha => by cases l <;> simp [fieldsK] at h; cases ha
  | f :: fs, o, [], h, a, ha => by cases ha
  | f :: fs, o, b :: l, h, a, ha => by
    simp only [fieldsK, Bool.and_eq_true] at h
    rcases List.mem_cons.1 ha with rfl | ha
    · exact ⟨_, h.1.2⟩
    · exact fieldsK_lit h.2 a ha
theorem key_lits {P : Program} {t : TypeId} {l : List AV} (h : keyOK P t (.many l) = true) : ∀ a ∈ l, ∃ t, litT P t a = true := by
  simp only [keyOK] at h
  split at h
  · simp only [Bool.and_eq_true] at h
    exact fieldsK_lit h.1
  · simp only [Bool.and_eq_true] at h
    exact fun a ha => ⟨_, List.all_eq_true.1 h.1.2 a ha⟩
  · cases h
theorem sameP_val {P : Program} {t : TypeId} {x y : PV} (hx : keyOK P t x = true) (h : sameP x y = true) : x.val = y.val := by
  cases x <;> cases y <;> simp only [sameP] at h <;> (try cases h)
  · exact sameA_val (by simpa [keyOK] using hx : litT P t _ = true) h
  · simp only [PV.val]
    rw [sameL_val (key_lits hx) h]
theorem sameBits_lit {P : Program} {t : TypeId} {a : AV} (h : litT P t a = true) (n : Nat) : Instr.sameBits n a.val a.val = true := by
  cases a <;> simp [litT] at h <;> cases n <;> simp [Instr.sameBits, AV.val, Go.MapKept.bytes_beq]
theorem key_stays {P : Program} {t : TypeId} {x : PV} (hx : keyOK P t x = true) (w : World) : (Instr.keyThatStays x.val x.val).run P w = .ok x.val w := by
  have : Instr.sameBits 10000 x.val x.val = true := by
    cases x with
    | one a => exact sameBits_lit (by simpa [keyOK] using hx : litT P t a = true) _
    | many l =>
      have hl := key_lits hx
      show Instr.sameBits (9999 + 1) (.agg _) (.agg _) = true
      simp only [Instr.sameBits, beq_self_eq_true, Bool.true_and, List.all_eq_true]
      intro p hp
      obtain ⟨i, hi, e⟩ := List.getElem_of_mem hp
      rw [List.getElem_zip] at e
      rw [← e]
      simp only [List.getElem_map]
      have hi' : i < l.length := by simpa using hi
      obtain ⟨t', ht'⟩ := hl l[i] (List.getElem_mem _)
      exact sameBits_lit ht' 9999
  simp [Instr.keyThatStays, this]
def allP : List FV → Option (List AV)
  | [] => some []
  | .p a :: xs => (allP xs).map (a :: ·)
  | _ => none
def toPV : FV → Option PV
  | .p a => some (.one a)
  | .agg cs => (allP cs).map .many
  | _ => none
theorem allP_ok : ∀ {cs : List FV} {l : List AV}, allP cs = some l → cs = l.map .p
  | [], l, h => by simp [allP] at h; subst h; rfl
  | x :: xs, l, h => by
    cases x <;> simp only [allP] at h <;> (try cases h)
    rename_i a
    cases hx : allP xs with
    | none => simp [hx] at h
    | some m =>
      simp only [hx, Option.map_some, Option.some.injEq] at h
      subst h
      rw [allP_ok hx]; rfl
theorem toPV_ok {x : FV} {k : PV} (h : toPV x = some k) : x = k.fv := by
  cases x <;> simp only [toPV] at h <;> (try cases h)
  · rfl
  · rename_i cs
    cases hc : allP cs with
    | none => simp [hc] at h
    | some l =>
      simp only [hc, Option.map_some, Option.some.injEq] at h
      subst h
      rw [allP_ok hc]; rfl
def lookR : List (PV × PV) → PV → FV → FV
  | [], _, z => z
  | e :: es, k, z => if sameP k e.1 then e.2.fv else lookR es k z
def hasR : List (PV × PV) → PV → Bool
  | [], _ => false
  | e :: es, k => sameP k e.1 || hasR es k
def putR : List (PV × PV) → PV → PV → List (PV × PV)
  | [], k, x => [(k, x)]
  | e :: es, k, x => if sameP k e.1 then (k, x) :: es else e :: putR es k x
def zeroF (z : Value) : FV :=
  match z with
  | .agg cs => .agg (cs.toList.map constF)
  | z => constF z
theorem zeroF_ok (c : Cx) (z : Value) : RelV c (zeroF z) z := by
  unfold zeroF
  split
  · simp only [RelV]; exact ⟨_, rfl, relVs_const c _⟩
  · exact relV_const c z
def mapOf (x : FV) (lk : Nat → Ob) : Option (Nat × List (PV × PV)) :=
  match x with
  | .mref id _ => match lk id with
    | .reg (.map es) => some (id, es)
    | _ => none
  | _ => none
def keysOK (P : Program) (kt : TypeId) (k : PV) (es : List (PV × PV)) : Prop := keyOK P kt k = true ∧ ∀ e ∈ es, keyOK P kt e.1 = true
def mapLookF (P : Program) (t : TypeId) (xm ix : FV) (ok : Bool) (lk : Nat → Ob) : Option Rs :=
  match P.underlying t with
  | some (.map kt vt) => match mapOf xm lk with
    | some (_, es) => match toPV ix with
      | some k => match P.info? vt with
        | some i => match i.zero with
          | some z => some ⟨if ok then .tup [lookR es k (zeroF z), .p (.bool (hasR es k))] else lookR es k (zeroF z), [], some (keysOK P kt k es)⟩
          | none => none
        | none => none
      | none => none
    | none => none
  | _ => none
def updF (P : Program) (t : TypeId) (xm xk xv : FV) (lk : Nat → Ob) : Option Rs :=
  match P.underlying t with
  | some (.map kt _) => match mapOf xm lk with
    | some (id, es) => match toPV xk, toPV xv with
      | some k, some x => some ⟨.u, [(id, .reg (.map (putR es k x)))], some (keysOK P kt k es)⟩
      | _, _ => none
    | none => none
  | _ => none
def mkMapF (g : Nat) : Option Rs := some ⟨.mref g g, [(g, .reg (.map []))], none⟩
def rangeF (P : Program) (t : TypeId) (xm : FV) (lk : Nat → Ob) (g : Nat) : Option Rs :=
  match P.underlying t with
  | some (.map _ _) => match mapOf xm lk with
    | some (id, es) => some ⟨.mref g id, [(g, .reg (.iter id es.length [] none))], none⟩
    | none => none
  | _ => none
def entF (xm : FV) (lk : Nat → Ob) : Option Rs :=
  match xm with
  | .mref id m => match lk id with
    | .reg (.iter m' n _ (some i)) => if m' = m then
        match lk m with
        | .reg (.map es) => some ⟨.tup [(es.getD i (.one .u, .one .u)).1.fv, (es.getD i (.one .u, .one .u)).2.fv], [], some (i < es.length ∧ n = es.length)⟩
        | _ => none
      else none
    | _ => none
  | _ => none
theorem mapOf_ok {E : En} {c : Cx} (hi : Inv E c) {lk : Nat → Ob} (hlk : ∀ id, lk id = .free ∨ lk id = look c.hp id) {x : FV} {v : Value} {id : Nat} {es : List (PV × PV)} (h : mapOf x lk = some (id, es)) (r : RelV c x v) :
    look c.hp id = .reg (.map es) ∧ v = c.κ id ∧ ∃ b ents, v = .map (some b) ∧ blk (c.κ id) = some b ∧ c.w.heap[b]? = some (.map ents ents.size) ∧ RelVs c (es.map (·.1.fv)) (ents.toList.map (·.key)) ∧ RelVs c (es.map (·.2.fv)) (ents.toList.map (·.val)) ∧ (∀ (i : Nat) (x : MapEntry), ents[i]? = some x → x.born = i) := by
  cases x <;> simp only [mapOf] at h <;> (try cases h)
  rename_i id' m
  split at h
  case h_2 => cases h
  rename_i es' ho
  simp only [Option.some.injEq, Prod.mk.injEq] at h
  obtain ⟨rfl, rfl⟩ := h
  have hl : look c.hp id' = .reg (.map es') := by
    rcases hlk id' with h | h
    · rw [h] at ho; cases ho
    · rw [← h]; exact ho
  have hob := hi.objs id'
  rw [hl] at hob
  simp only [RelV] at r
  have hr := r.2
  rw [hl] at hr
  have hv : v = c.κ id' := hr
  obtain ⟨b, hb, _, _, hv2, ents, h1, h2, h3, h4⟩ := hob
  exact ⟨hl, hv, b, ents, hv.trans hv2, hb, h1, h2, h3, h4⟩
theorem keys_val {P : Program} {kt : TypeId} {c : Cx} : ∀ {es : List (PV × PV)} {vs : List Value}, (∀ e ∈ es, keyOK P kt e.1 = true) → RelVs c (es.map (·.1.fv)) vs → vs = (es.map (·.1)).map PV.val
  | [], vs, _, r => by simpa [RelVs] using r
  | e :: es, vs, h, r => by
    simp only [List.map_cons, RelVs] at r
    obtain ⟨v, vs', rfl, h1, h2⟩ := r
    rw [key_rep (h e (List.mem_cons_self ..)) h1, keys_val (fun x hx => h x (List.mem_cons_of_mem _ hx)) h2]
    rfl
theorem lookR_ok {c : Cx} {k : PV} {z : FV} : ∀ (es : List (PV × PV)) (vs : List Value), RelVs c (es.map (·.2.fv)) vs →
    match findP k (es.map (·.1)) with
    | some i => (∃ v, vs[i]? = some v ∧ RelV c (lookR es k z) v) ∧ hasR es k = true
    | none => lookR es k z = z ∧ hasR es k = false
  | [], vs, r => by simp [findP, lookR, hasR]
  | e :: es, vs, r => by
    simp only [List.map_cons, RelVs] at r
    obtain ⟨v, vs', rfl, h1, h2⟩ := r
    have ih := lookR_ok (k := k) (z := z) es vs' h2
    simp only [List.map_cons, findP]
    cases hs : sameP k e.1
    · simp only [Bool.false_eq_true, if_false]
      cases hf : findP k (es.map (·.1)) with
      | none =>
        rw [hf] at ih
        simpa [lookR, hasR, hs] using ih
      | some j =>
        rw [hf] at ih
        simpa [lookR, hasR, hs] using ih
    · simp [lookR, hasR, hs, h1]
theorem run_zero {P : Program} {t : TypeId} {i : TypeInfo} {z : Value} (h : P.info? t = some i) (hz : i.zero = some z) (w : World) : (zeroValue t).run P w = .ok z w := by
  simp [zeroValue, typeInfo, h, hz]
theorem step_look {P : Program} {E : En} {c : Cx} (hi : Inv E c) {lk : Nat → Ob} (hlk : ∀ id, lk id = .free ∨ lk id = look c.hp id) {t : TypeId} {xm ix : FV} {ok : Bool} {rs : Rs} {v u : Value} (h : mapLookF P t xm ix ok lk = some rs) (hob : rs.ob) (r : RelV c xm v) (ri : RelV c ix u) :
    Step1 E c rs ((do pure (Next.value (← Instr.lookup t v u ok)) : Sem Next).run P c.w) := by
  unfold mapLookF at h
  split at h
  case h_2 => cases h
  rename_i kt vt hu
  split at h
  case h_2 => cases h
  rename_i id es hm
  split at h
  case h_2 => cases h
  rename_i k hk
  split at h
  case h_2 => cases h
  rename_i i hq
  split at h
  case h_2 => cases h
  rename_i z hz
  simp only [Option.some.injEq] at h
  subst h
  obtain ⟨hk1, hk2⟩ := hob
  obtain ⟨_, _, b, ents, rfl, _, hb, h1, h2, _⟩ := mapOf_ok hi hlk hm r
  rw [toPV_ok hk] at ri
  obtain rfl := key_rep hk1 ri
  have hkv := keys_val hk2 h1
  have hlen : ents.toList.length = es.length := by have := congrArg List.length hkv; simpa using this
  have hfind := find_ok (P := P) (w := c.w) (kt := kt) (x := k) (ks := es.map (·.1)) (es := ents.toList) hk1 (fun y hy => by
    obtain ⟨e, he, rfl⟩ := List.mem_map.1 hy; exact hk2 e he) hkv
  have hl := lookR_ok (c := c) (k := k) (z := zeroF z) es _ h2
  have hrun : (Instr.lookup t (.map (some b)) k.val ok).run P c.w = .ok (if ok then .tuple #[((findP k (es.map (·.1))).map fun j => ((ents.toList[j]?).map (·.val)).getD undef).getD z, .bool (hasR es k)] else ((findP k (es.map (·.1))).map fun j => ((ents.toList[j]?).map (·.val)).getD undef).getD z) c.w := by
    unfold Instr.lookup
    simp only [Sem.run_bind, run_underlying hu, Result.andThen_ok, Go.MapKept.run_getObj_map hb, Sem.run_pure, key_check hk1, hfind]
    cases hf : findP k (es.map (·.1)) with
    | none =>
      rw [hf] at hl
      simp [run_zero hq hz, hl.2]
    | some j =>
      rw [hf] at hl
      simp [hl.2]
  have hrel : RelV c (lookR es k (zeroF z)) (((findP k (es.map (·.1))).map fun j => ((ents.toList[j]?).map (·.val)).getD undef).getD z) := by
    cases hf : findP k (es.map (·.1)) with
    | none => rw [hf] at hl; rw [hl.1]; exact zeroF_ok c z
    | some j =>
      rw [hf] at hl
      obtain ⟨⟨x, hx1, hx2⟩, _⟩ := hl
      rw [List.getElem?_map] at hx1
      simp only [Option.map_some, Option.getD_some]
      rw [hx1]
      exact hx2
  refine step_pure hi (v := _) (by rw [Sem.run_bind, hrun]; rfl) ?_
  cases ok
  · exact hrel
  · show RelV c (.tup _) (.tuple _)
    simp only [RelV]
    exact ⟨_, rfl, by simp only [RelVs]; exact ⟨_, _, rfl, hrel, _, _, rfl, by simp [RelV, Rep], rfl⟩⟩
theorem heap_setIf {w : World} {b : Nat} {o o' : Obj} (h : w.heap[b]? = some o) : (w.heap.setIfInBounds b o')[b]? = some o' ∧ (w.heap.setIfInBounds b o').size = w.heap.size ∧ ∀ k, k ≠ b → (w.heap.setIfInBounds b o')[k]? = w.heap[k]? :=
  ⟨(Go.MapKept.heap_set h).1, by simp, (Go.MapKept.heap_set h).2⟩
theorem putR_found {c : Cx} {k x : PV} {v : Value} (hv : RelV c x.fv v) {kv : Value} (hkv : RelV c k.fv kv) : ∀ (es : List (PV × PV)) (ents : List MapEntry) (i : Nat), findP k (es.map (·.1)) = some i → RelVs c (es.map (·.1.fv)) (ents.map (·.key)) → RelVs c (es.map (·.2.fv)) (ents.map (·.val)) →
    RelVs c ((putR es k x).map (·.1.fv)) ((ents.modify i fun e => { e with key := kv, val := v }).map (·.key)) ∧ RelVs c ((putR es k x).map (·.2.fv)) ((ents.modify i fun e => { e with key := kv, val := v }).map (·.val))
  | [], ents, i, h, _, _ => by simp [findP] at h
  | e :: es, ents, i, h, r1, r2 => by
    cases ents with
    | nil =>
      simp only [List.map_cons, List.map_nil, RelVs] at r1
      obtain ⟨_, _, hh, _⟩ := r1
      cases hh
    | cons m ents =>
      simp only [List.map_cons, RelVs] at r1 r2
      obtain ⟨a, as', h1, h2, h3⟩ := r1
      obtain ⟨b, bs', g1, g2, g3⟩ := r2
      injection h1 with e1 e2
      injection g1 with e3 e4
      subst e1 e2 e3 e4
      simp only [List.map_cons, findP] at h
      cases hs : sameP k e.1
      · simp only [hs, Bool.false_eq_true, if_false] at h
        cases hf : findP k (es.map (·.1)) with
        | none => simp [hf] at h
        | some j =>
          simp only [hf, Option.map_some, Option.some.injEq] at h
          subst h
          obtain ⟨q1, q2⟩ := putR_found hv hkv es ents j hf h3 g3
          simp only [putR, hs, Bool.false_eq_true, if_false, List.map_cons, List.modify_succ_cons, RelVs]
          exact ⟨⟨_, _, rfl, h2, q1⟩, ⟨_, _, rfl, g2, q2⟩⟩
      · simp only [hs, if_true, Option.some.injEq] at h
        subst h
        simp only [putR, hs, if_true, List.map_cons, List.modify_zero_cons, RelVs]
        exact ⟨⟨_, _, rfl, hkv, h3⟩, ⟨_, _, rfl, hv, g3⟩⟩
theorem putR_none {k x : PV} : ∀ (es : List (PV × PV)), findP k (es.map (·.1)) = none → putR es k x = es ++ [(k, x)]
  | [], _ => rfl
  | e :: es, h => by
    simp only [List.map_cons, findP] at h
    cases hs : sameP k e.1
    · simp only [hs, Bool.false_eq_true, if_false, Option.map_eq_none_iff] at h
      simp [putR, hs, putR_none es h]
    · simp [hs] at h
theorem step_upd {P : Program} {E : En} {c : Cx} (hi : Inv E c) {lk : Nat → Ob} (hlk : ∀ id, lk id = .free ∨ lk id = look c.hp id) {t : TypeId} {xm xk xv : FV} {rs : Rs} {v u x : Value} (h : updF P t xm xk xv lk = some rs) (hob : rs.ob) (r : RelV c xm v) (rk : RelV c xk u) (rx : RelV c xv x) :
    Step1 E c rs ((do Instr.mapUpdate t v u x; pure Next.skip : Sem Next).run P c.w) := by
  unfold updF at h
  split at h
  case h_2 => cases h
  rename_i kt vt hu
  split at h
  case h_2 => cases h
  rename_i id es hm
  split at h
  case h_2 => cases h
  rename_i k y hk hy
  simp only [Option.some.injEq] at h
  subst h
  obtain ⟨hk1, hk2⟩ := hob
  obtain ⟨hl, hvk, b, ents, rfl, hblk, hb, h1, h2, h4⟩ := mapOf_ok hi hlk hm r
  rw [toPV_ok hk] at rk
  rw [toPV_ok hy] at rx
  obtain rfl := key_rep hk1 rk
  have hkv := keys_val hk2 h1
  have hlen : ents.size = es.length := by have := congrArg List.length hkv; simpa using this
  have hfind := find_ok (P := P) (w := c.w) (kt := kt) (x := k) (ks := es.map (·.1)) (es := ents.toList) hk1 (fun z hz => by
    obtain ⟨e, he, rfl⟩ := List.mem_map.1 hz; exact hk2 e he) hkv
  have fin : ∀ (ents' : Array MapEntry), (Instr.mapUpdate t (.map (some b)) k.val x).run P c.w = .ok () { c.w with heap := c.w.heap.setIfInBounds b (.map ents' ents'.size) } →
      RelVs c ((putR es k y).map (·.1.fv)) (ents'.toList.map (·.key)) → RelVs c ((putR es k y).map (·.2.fv)) (ents'.toList.map (·.val)) → (∀ (i : Nat) (q : MapEntry), ents'[i]? = some q → q.born = i) →
      Step1 E c ⟨.u, [(id, .reg (.map (putR es k y)))], some (keysOK P kt k es)⟩ ((do Instr.mapUpdate t (.map (some b)) k.val x; pure Next.skip : Sem Next).run P c.w) := by
    intro ents' hrun q1 q2 q3
    obtain ⟨s1, s2, s3⟩ := heap_setIf (o' := .map ents' ents'.size) hb
    obtain ⟨i1, l1⟩ := hi.put (w' := { c.w with heap := c.w.heap.setIfInBounds b (.map ents' ents'.size) }) (id := id) (o := .reg (.map (putR es k y))) (by rw [hl]; rfl)
      ⟨rfl, rfl, rfl, Nat.le_refl _, by show _ ≤ (c.w.heap.setIfInBounds b _).size; rw [s2]; exact Nat.le_refl _, fun q _ hq => s3 q (fun e => hq (by rw [e]; exact hblk))⟩ (by rw [hl]; exact .inr ⟨rfl, _, rfl⟩)
      (fun hle => ⟨b, hblk, by show b < (c.w.heap.setIfInBounds b _).size; rw [s2]; exact (Array.getElem?_eq_some_iff.1 hb).1, by
          have := hi.notF (i := id) (by rw [hl]; rfl) b hblk
          exact this, hvk ▸ rfl, ents', s1, RelVs.keep hle _ _ q1, RelVs.keep hle _ _ q2, q3⟩)
    exact ⟨_, undef, _, by rw [Sem.run_bind, hrun]; rfl, .inr ⟨rfl, rfl⟩, i1, l1, rfl, by simp [RelV]⟩
  cases hf : findP k (es.map (·.1)) with
  | none =>
    refine fin (ents.push { key := k.val, val := x, born := ents.size }) ?_ ?_ ?_ ?_
    · unfold Instr.mapUpdate
      rw [hf] at hfind
      simp [run_underlying hu, Go.MapKept.run_getObj_map hb, key_check hk1, hfind, Go.MapKept.run_setObj_map _ hb]
    · rw [putR_none es hf]
      simp only [List.map_append, List.map_cons, List.map_nil, Array.toList_push]
      exact h1.append (by simp only [RelVs]; exact ⟨_, _, rfl, rk, rfl⟩)
    · rw [putR_none es hf]
      simp only [List.map_append, List.map_cons, List.map_nil, Array.toList_push]
      exact h2.append (by simp only [RelVs]; exact ⟨_, _, rfl, rx, rfl⟩)
    · intro i q hq
      rw [Array.getElem?_push] at hq
      split at hq
      · rename_i e; injection hq with hq; subst hq; exact e.symm
      · exact h4 i q hq
  | some j =>
    obtain ⟨y2, hy1, hy2⟩ := findP_some hf
    have hj : j < ents.size := by
      have := (List.getElem?_eq_some_iff.1 hy1).1
      simp at this
      omega
    have hkey : ents[j].key = k.val := by
      have : (ents.toList.map (·.key))[j]? = some y2.val := by rw [hkv, List.getElem?_map, hy1]; rfl
      simp [hj] at this
      rw [this]
      exact (sameP_val hk1 hy2).symm
    refine fin (ents.modify j fun e => { e with key := k.val, val := x }) ?_ ?_ ?_ ?_
    · unfold Instr.mapUpdate
      rw [hf] at hfind
      simp [run_underlying hu, Go.MapKept.run_getObj_map hb, key_check hk1, hfind, hj, hkey, key_stays hk1, Go.MapKept.run_setObj_map _ hb]
    · have := (putR_found rx rk es ents.toList j hf h1 h2).1
      simpa using this
    · have := (putR_found rx rk es ents.toList j hf h1 h2).2
      simpa using this
    · intro i q hq
      rw [Array.getElem?_modify] at hq
      split at hq
      · rename_i e
        subst e
        cases he : ents[j]? with
        | none => simp [he] at hq
        | some q0 =>
          simp only [he, Option.map_some, Option.some.injEq] at hq
          subst hq
          exact h4 j q0 he
      · exact h4 i q hq
theorem step_mkMap {P : Program} {E : En} {c : Cx} (hi : Inv E c) {g : Nat} (hg : look c.hp g = .free ∧ g < c.hp.length) {t : TypeId} {rs : Rs} (h : mkMapF g = some rs) :
    Step1 E c rs ((do pure (Next.value (← Instr.makeMap t none)) : Sem Next).run P c.w) := by
  simp only [mkMapF, Option.some.injEq] at h
  subst h
  obtain ⟨i1, l1⟩ := hi.new (w' := c.w.alloc (.map #[] 0)) (g := g) (v := .map (some c.w.heap.size)) (o := .reg (.map [])) (chg_alloc _ _ _) hg.1 hg.2
    (fun b hb => by simp only [blk, Option.some.injEq] at hb; omega)
    (fun hle => ⟨c.w.heap.size, rfl, by simp, fun hF => by have := hi.lt _ hF; omega, rfl, #[], by simpa using heap_alloc_new c.w (.map #[] 0), by simp [RelVs], by simp [RelVs], fun i x hx => by simp at hx⟩)
  refine ⟨_, .map (some c.w.heap.size), _, ?_, .inl rfl, i1, l1, rfl, ?_⟩
  rotate_left
  · simp only [RelV]
    refine ⟨rfl, ?_⟩
    show RefM (look (c.hp.set g _) g) (upd c.κ g _ g) _
    rw [look_set_same _ hg.2, upd_same]
    rfl
  · simp [Instr.makeMap, newObj]; rfl
theorem step_range {P : Program} {E : En} {c : Cx} (hi : Inv E c) {lk : Nat → Ob} (hlk : ∀ id, lk id = .free ∨ lk id = look c.hp id) {g : Nat} (hg : look c.hp g = .free ∧ g < c.hp.length) {t : TypeId} {xm : FV} {rs : Rs} {v : Value} (h : rangeF P t xm lk g = some rs) (r : RelV c xm v) :
    Step1 E c rs ((do pure (Next.value (← Instr.range t v)) : Sem Next).run P c.w) := by
  unfold rangeF at h
  split at h
  case h_2 => cases h
  rename_i kt vt hu
  split at h
  case h_2 => cases h
  rename_i id es hm
  simp only [Option.some.injEq] at h
  subst h
  obtain ⟨hl, hvk, b, ents, rfl, hblk, hb, h1, h2, h4⟩ := mapOf_ok hi hlk hm r
  have hlen : ents.size = es.length := by have := h1.length; simpa using this
  have hne : id ≠ g := fun e => by rw [e, hg.1] at hl; cases hl
  obtain ⟨i1, l1⟩ := hi.new (w' := c.w.alloc (.mapIter (some b) es.length #[] es.length)) (g := g) (v := .pointer (some ⟨c.w.heap.size, 0, none⟩)) (o := .reg (.iter id es.length [] none)) (chg_alloc _ _ _) hg.1 hg.2
    (fun b hb => by simp only [blk, Option.some.injEq] at hb; omega)
    (fun hle => ⟨c.w.heap.size, rfl, by simp, fun hF => by have := hi.lt _ hF; omega, rfl, b, by
        have : RelV c (.mref id id) (.map (some b)) := by
          simp only [RelV]
          refine ⟨rfl, ?_⟩
          rw [hl]
          exact hvk
        exact RelV.keep hle _ _ this, by simpa using heap_alloc_new c.w _, fun i h => by cases h⟩)
  refine ⟨_, .pointer (some ⟨c.w.heap.size, 0, none⟩), _, ?_, .inl rfl, i1, l1, rfl, ?_⟩
  rotate_left
  · simp only [RelV]
    refine ⟨rfl, ?_⟩
    show RefM (look (c.hp.set g _) g) (upd c.κ g _ g) _
    rw [look_set_same _ hg.2, upd_same]
    rfl
  · simp [Instr.range, run_underlying hu, Go.MapKept.run_getObj_map hb, newObj, hlen]; rfl
theorem step_ent {P : Program} {E : En} {c : Cx} (hi : Inv E c) {lk : Nat → Ob} (hlk : ∀ id, lk id = .free ∨ lk id = look c.hp id) {xm : FV} {rs : Rs} {v : Value} (h : entF xm lk = some rs) (hob : rs.ob) (r : RelV c xm v) :
    Step1 E c rs ((do pure (Next.value (← Instr.entry v)) : Sem Next).run P c.w) := by
  cases xm <;> simp only [entF] at h <;> (try cases h)
  rename_i id m
  split at h
  case h_2 => cases h
  rename_i m' n seen i ho
  split at h
  case isFalse => cases h
  rename_i hmm
  subst hmm
  split at h
  case h_2 => cases h
  rename_i es hm
  simp only [Option.some.injEq] at h
  subst h
  obtain ⟨hlt, hn⟩ := hob
  have h1 : look c.hp id = .reg (.iter m' n seen (some i)) := by
    rcases hlk id with h | h
    · rw [h] at ho; cases ho
    · rw [← h]; exact ho
  have h2 : look c.hp m' = .reg (.map es) := by
    rcases hlk m' with h | h
    · rw [h] at hm; cases hm
    · rw [← h]; exact hm
  have o1 := hi.objs id
  have o2 := hi.objs m'
  rw [h1] at o1
  rw [h2] at o2
  obtain ⟨b, hb, _, _, hv1, bm, hbm, hit, hcur⟩ := o1
  obtain ⟨b2, hb2, _, _, hv2, ents, he, r1, r2, r3⟩ := o2
  simp only [RelV] at r hbm
  have hr := r.2
  rw [h1] at hr
  have hbm2 := hbm.2
  rw [h2] at hbm2
  have hv : v = c.κ id := hr
  have hbe : bm = b2 := by
    have : Value.map (some bm) = c.κ m' := hbm2
    rw [hv2] at this
    simpa using this
  subst hbe
  have hlen : ents.size = es.length := by have := r1.length; simpa using this
  have hcu := hcur i rfl
  have hi' : i < ents.size := by omega
  have hfind : ents.find? (fun e => e.born == i) = some ents[i] := by
    rw [Array.find?_eq_some_iff_getElem]
    refine ⟨by simp [r3 i ents[i] (Array.getElem?_eq_getElem hi')], i, hi', rfl, fun j hj => ?_⟩
    have := r3 j ents[j] (Array.getElem?_eq_getElem (by omega))
    simp [this]
    omega
  have hobj : (getObj b).run P c.w = .ok (.mapIter (some bm) n seen.toArray n) c.w := by simp [getObj, Sem.run, hit]
  have hrun : (Instr.entry v).run P c.w = .ok (.tuple #[ents[i].key, ents[i].val]) c.w := by
    rw [hv, hv1]
    unfold Instr.entry
    simp [hobj, hcu, Go.MapKept.run_getObj_map he, hn, hlen, hfind]
  refine step_pure hi (v := _) (by rw [Sem.run_bind, hrun]; rfl) ?_
  simp only [RelV]
  have hget : es.getD i (.one .u, .one .u) = es[i] := by simp [List.getD_eq_getElem?_getD, hlt]
  refine ⟨_, rfl, ?_⟩
  simp only [RelVs, hget]
  obtain ⟨k, hk1, hk2⟩ := r1.get i (by simpa using hlt)
  obtain ⟨x, hx1, hx2⟩ := r2.get i (by simpa using hlt)
  simp [hi'] at hk1 hx1
  simp only [List.getElem_map] at hk2 hx2
  exact ⟨_, _, rfl, by rw [hk1]; exact hk2, _, _, rfl, by rw [hx1]; exact hx2, rfl⟩
end Go.Proofs.YtjhnpaenhdbhpacV
set_option linter.unusedVariables false
set_option linter.unusedSimpArgs false
set_option linter.constructorNameAsVariable false
namespace Go.Proofs.YtjhnpaenhdbhpacV
open Go Go.RowKit
def strL (s : ByteArray) : List Int := s.data.toList.map fun b => (b.toNat : Int)
def byteL (l : List Int) : ByteArray := ⟨(l.map fun n => UInt8.ofNat n.toNat).toArray⟩
def numA : AV → Int
  | .int _ k => k
  | _ => 0
def strA (n : Nat) (f : Nat → Nat → AV) : ByteArray := byteL ((List.range n).map fun i => numA (f i 0))
def cvSF (P : Program) (src dst : TypeId) (x : FV) : Option Rs :=
  match x with
  | .p (.str s) => match P.underlying src, P.underlying dst with
    | some .string, some (.slice e) => match P.underlying e with
      | some (.int .u8) => some ⟨.p (.sl 1 s.size (fun i _ => .int .u8 ((s.data.toList.map fun b => (b.toNat : Int)).getD i 0))), [], none⟩
      | _ => none
    | _, _ => none
  | _ => none
def cvBF (P : Program) (src dst : TypeId) (x : FV) (lk : Nat → Ob) : Option Rs :=
  match P.underlying src, P.underlying dst with
  | some (.slice e), some .string => match P.underlying e with
    | some (.int .u8) => match srcA x lk with
      | some (sz, m, h) => if sz = 1 ∨ m = 0 then some ⟨.p (.str (strA m h)), [], some (∀ i, i < m → h i 0 = .int .u8 (numA (h i 0)))⟩ else none
      | none => none
    | _ => none
  | _, _ => none
def cvAF (P : Program) (src dst : TypeId) (x : FV) (lk : Nat → Ob) : Option Rs :=
  match cvF P src dst x with
  | some r => some r
  | none => match cvSF P src dst x with
    | some r => some r
    | none => cvBF P src dst x lk
theorem Inv.settle {E : En} {c : Cx} (hi : Inv E c) {w' : World} (hc : Chg (fun _ => False) c.w w') : Inv E ⟨fun b => c.F b ∨ (c.w.heap.size ≤ b ∧ b < w'.heap.size), w', c.κ, c.hp⟩ ∧ Le c ⟨fun b => c.F b ∨ (c.w.heap.size ≤ b ∧ b < w'.heap.size), w', c.κ, c.hp⟩ := by
  have hle : Le c ⟨fun b => c.F b ∨ (c.w.heap.size ≤ b ∧ b < w'.heap.size), w', c.κ, c.hp⟩ := ⟨fun b h => .inl h, fun b h => hc.block b (hi.lt b h) (fun h => h), fun id => OLe.refl _ _⟩
  refine ⟨⟨⟨hc.os.trans hi.chg.os, hc.tape.trans hi.chg.tape, hc.output.trans hi.chg.output, Nat.le_trans hi.chg.drawn hc.drawn, Nat.le_trans hi.chg.size hc.size, fun b hb hM => (hc.block b (Nat.lt_of_lt_of_le hb hi.chg.size) (fun h => h)).trans (hi.chg.block b hb hM)⟩, fun b hb => .inl (hi.f0 b hb), ?_, ?_, fun id => ?_, hi.inj, hi.own⟩, hle⟩
  · rintro b (h | h)
    · exact hi.f1 b h
    · exact .inr (.inr (Nat.le_trans hi.chg.size h.1))
  · rintro b (h | h)
    · exact Nat.lt_of_lt_of_le (hi.lt b h) hc.size
    · exact h.2
  · show RelO _ (c.κ id) (look c.hp id)
    by_cases hal : look c.hp id = .free ∨ look c.hp id = .dead
    · rcases hal with h | h <;> rw [h] <;> trivial
    · have hlt := RelO.lt (hi.objs id) (fun e => hal (.inl e)) (fun e => hal (.inr e))
      refine RelO.keep hle (hi.objs id) (fun b hb => hc.block b (hlt b hb) (fun h => h)) (fun b hb hm => ?_)
      rintro (h | h)
      · exact hi.notF hm b hb h
      · have := hlt b hb
        omega
theorem step_cvS {P : Program} {E : En} {c : Cx} (hi : Inv E c) {src dst : TypeId} {x : FV} {rs : Rs} {v : Value} (h : cvSF P src dst x = some rs) (r : RelV c x v) :
    Step1 E c rs ((do pure (Next.value (← convert src dst v)) : Sem Next).run P c.w) := by
  unfold cvSF at h
  split at h
  case h_2 => cases h
  rename_i s
  split at h
  case h_2 => cases h
  rename_i e hs hd
  split at h
  case h_2 => cases h
  rename_i he
  simp only [Option.some.injEq] at h
  subst h
  simp only [RelV, Rep] at r
  subst r
  have hrun := run_bytes_of_string (P := P) c.w src dst e s hs hd he
  generalize hC : bytesRow s (grownCap c.w s.size 0 e) = C at hrun
  obtain ⟨i1, l1⟩ := hi.settle (w' := c.w.drew.alloc (.cells C e (C.size, C.size + 1))) ⟨rfl, rfl, rfl, Nat.le_succ _, by simp, fun b hb _ => heap_alloc_old c.w.drew _ b hb⟩
  refine ⟨_, .slice (some ⟨c.w.heap.size, 0, none⟩) s.size (grownCap c.w s.size 0 e), _, by rw [Sem.run_bind, hrun]; rfl, .inl rfl, i1, l1, rfl, ?_⟩
  simp only [RelV, Rep]
  refine ⟨_, _, rfl, grownCap_ge _ _ _ _, by simp, .inr ⟨c.w.heap.size, 0, rfl, .inr ⟨Nat.le_refl _, by simp⟩, fun i hi' j hj => ?_⟩⟩
  have hj0 : j = 0 := by omega
  subst hj0
  refine ⟨.int .u8 ((s.data.toList.map fun b => (b.toNat : Int)).getD i 0), ?_, rfl⟩
  have := World.cell?_alloc_mark c.w.drew C e (C.size, C.size + 1) i
  simp only [Nat.mul_one, Nat.add_zero, Nat.zero_add]
  refine Eq.trans this ?_
  have hi2 : i < s.data.size := hi'
  rw [← hC, bytesRow, Array.getElem?_append_left (by simpa using hi2)]
  simp only [Array.getElem?_map, Array.getElem?_eq_getElem hi2, Option.map_some, List.getD_eq_getElem?_getD, List.getElem?_map, Array.getElem?_toList, Option.getD_some]
theorem foldl_push : ∀ (l : List Int) (r : ByteArray), l.foldl (fun r n => r.push (UInt8.ofNat n.toNat)) r = ⟨r.data ++ (l.map fun n => UInt8.ofNat n.toNat).toArray⟩
  | [], r => by simp
  | n :: l, r => by
    simp only [List.foldl_cons]
    rw [foldl_push l]
    simp [ByteArray.push]
theorem step_cvB {P : Program} {E : En} {c : Cx} (hi : Inv E c) {lk : Nat → Ob} (hlk : ∀ id, lk id = .free ∨ lk id = look c.hp id) {src dst : TypeId} {x : FV} {rs : Rs} {v : Value} (h : cvBF P src dst x lk = some rs) (hob : rs.ob) (r : RelV c x v) :
    Step1 E c rs ((do pure (Next.value (← convert src dst v)) : Sem Next).run P c.w) := by
  unfold cvBF at h
  split at h
  case h_2 => cases h
  rename_i e hs hd
  split at h
  case h_2 => cases h
  rename_i he
  split at h
  case h_2 => cases h
  rename_i sz m f hsrc
  split at h
  case isFalse => cases h
  rename_i hsz
  simp only [Option.some.injEq] at h
  subst h
  have hob' : ∀ i, i < m → f i 0 = .int .u8 (numA (f i 0)) := hob
  obtain ⟨base, cap, rfl, hS⟩ := srcA_ok hi hlk hsrc r
  refine step_pure hi (v := .string (strA m f)) ?_ (by simp [RelV, Rep])
  rw [Sem.run_bind, run_convert_bytes_string c.w src dst e base m cap hs he hd]
  rcases hS with ⟨rfl, rfl, rfl⟩ | ⟨a, news, rfl, h2, h3, h4, h5⟩
  · simp [Conv.bytesToString, strA, byteL]; rfl
  · have hl : (loadCells a m).run P c.w = .ok (((List.range m).map fun i => numA (f i 0)).map (Value.int .u8)).toArray c.w := by
      have hh : ∀ j u, (((List.range m).map fun i => numA (f i 0)).map (Value.int .u8))[j]? = some u → c.w.cell? (a.add j) = some u := by
        intro j u hu
        have hj : j < m := by
          have := (List.getElem?_eq_some_iff.1 hu).1
          simpa using this
        rcases hsz with rfl | rfl
        · obtain ⟨y, g1, g2⟩ := h5 j hj 0 (by omega)
          rw [hob' j hj] at g2
          simp only [Rep] at g2
          simp [hj] at hu
          rw [← hu]
          refine h3 j _ ?_
          rw [← g2]
          simpa using g1
        · omega
      have := run_loadCells_list (P := P) c.w a _ hh
      simpa using this
    rw [run_bytesToString c.w a m cap _ hl, foldl_push]
    have he0 : ByteArray.empty.data = #[] := rfl
    rw [he0]
    simp [strA, byteL]
theorem step_cvA {P : Program} {E : En} {c : Cx} (hi : Inv E c) {lk : Nat → Ob} (hlk : ∀ id, lk id = .free ∨ lk id = look c.hp id) {src dst : TypeId} {x : FV} {rs : Rs} {v : Value} (h : cvAF P src dst x lk = some rs) (hob : rs.ob) (r : RelV c x v) :
    Step1 E c rs ((do pure (Next.value (← convert src dst v)) : Sem Next).run P c.w) := by
  unfold cvAF at h
  split at h
  · rename_i r' hr'
    simp only [Option.some.injEq] at h
    subst h
    exact step_cv hi hr' r
  · split at h
    · rename_i r' hr'
      simp only [Option.some.injEq] at h
      subst h
      exact step_cvS hi hr' r
    · exact step_cvB hi hlk h hob r
end Go.Proofs.YtjhnpaenhdbhpacV
set_option linter.unusedVariables false
set_option linter.unusedSimpArgs false
set_option linter.constructorNameAsVariable false
namespace Go.Proofs.YtjhnpaenhdbhpacV
open Go Go.RowKit
def valG (get : Tmp → FV) : Operand → FV
  | .tmp t => get t
  | .const v => constF v
  | .func f => .fn f []
  | .global _ => .u
theorem relV_valG {c : Cx} {fr : List FV} {a : Act} {get : Tmp → FV} (h : RelVs c fr a.tmps.toList) (hg : ∀ t, get t = .u ∨ get t = fr.getD t .u) (x : Operand) : RelV c (valG get x) (a.eval x) := by
  cases x with
  | tmp t =>
    simp only [valG]
    rcases hg t with e | e
    · rw [e]; simp [RelV]
    · rw [e]; exact relV_val h (.tmp t)
  | const v => exact relV_const c v
  | global g => simp [valG, RelV]
  | func f => exact relV_val h (.func f)
def isX : Hn → Bool
  | .callX .. => true
  | _ => false
def callG (P : Program) (c : Call) (val : Operand → FV) (lk : Nat → Ob) (g : Nat) (h : Hn) : Option Rs :=
  match c.callee with
  | .builtin .len => match c.args.toList, c.argTypes.toList with
    | [x], [t] => lenF P t (val x)
    | _, _ => none
  | .builtin .append => match c.args.toList, c.argTypes.toList with
    | [s, x], [t, u] => if t = u then appF P t (val s) (val x) lk g else none
    | _, _ => none
  | .builtin .copy => match c.args.toList, c.argTypes.toList with
    | [s, x], [t, _] => copyF P t (val s) (val x) lk
    | _, _ => none
  | .builtin .max => match c.args.toList with
    | [x, y] => mmF true (val x) (val y)
    | _ => none
  | .builtin .min => match c.args.toList with
    | [x, y] => mmF false (val x) (val y)
    | _ => none
  | .value x => match val x with
    | .fn f caps => if isX h then callXF P f (c.args.toList.map val ++ caps) lk g h else match caps with
      | [] => callF P f (c.args.toList.map val) lk g h
      | _ => none
    | _ => none
  | _ => none
def opF (P : Program) (o : Oper) (val : Operand → FV) (lk : Nat → Ob) (g : Nat) (h : Hn) : Option Rs :=
  match o.op with
  | .move x => moveF P o.type (val x) g
  | .assign x => moveF P o.type (val x) g
  | .pick c a b => pickF (val c) (val a) (val b)
  | .alloc t => allocSF P t g
  | .box _ x => boxF (val x) g
  | .build t ps => buildF P t (ps.toList.map fun p => (p.1, val p.2))
  | .buildSlice t n ps => bsF P t n (ps.toList.map fun p => (p.1, val p.2)) lk g
  | .load t x => loadF P t (val x) lk
  | .store t x y => storeF P t (val x) (val y) lk
  | .binOp op t x y _ => binF P op t (val x) (val y)
  | .unOp op _ x => unF op (val x)
  | .convert s d x => cvAF P s d (val x) lk
  | .slice t x lo hi mx => slF P t (val x) (lo.map val) (hi.map val) (mx.map val) lk
  | .fieldAddr s x q => faF P s (val x) q
  | .indexAddr t x ix => iaF P t (val x) (val ix)
  | .index t x ix => ixF P t (val x) (val ix)
  | .extract x q => exF (val x) q
  | .makeFunc (.func f) first caps => if first.size = 0 then some ⟨.fn f (caps.toList.map val), [], none⟩ else none
  | .makeMap _ none => mkMapF g
  | .lookup t x ix ok => mapLookF P t (val x) (val ix) ok lk
  | .mapUpdate t m k x => updF P t (val m) (val k) (val x) lk
  | .range t x => rangeF P t (val x) lk g
  | .entry x => entF (val x) lk
  | .call c => callG P c val lk g h
  | _ => none
theorem upon_step1 {P : Program} {E : En} {c : Cx} {o : Oper} {a : Act} {K : Act → World → Prop} {Q : Exit → Act → World → Prop} {rs : Rs} {r : Result Next} (h : Step1 E c rs r)
    (hK : ∀ v c', Inv E c' → Le c c' → c'.hp = setUps c.hp rs.ups → RelV c' rs.r v → K (a.put o.dst v) c'.w) : o.upon P a K Q r := by
  obtain ⟨nx, v, c', rfl, hn, h1, h2, h3, h4⟩ := h
  rcases hn with rfl | ⟨rfl, rfl⟩
  · exact hK v c' h1 h2 h3 h4
  · exact hK undef c' h1 h2 h3 h4
theorem relVs_map {c : Cx} {val : Operand → FV} {a : Act} (hv : ∀ x, RelV c (val x) (a.eval x)) : ∀ l : List Operand, RelVs c (l.map val) (l.map a.eval)
  | [] => by simp [RelVs]
  | x :: l => by simp only [List.map_cons, RelVs]; exact ⟨_, _, rfl, hv x, relVs_map hv l⟩
def mayNew (val : Operand → FV) : Op → Bool
  | .move x | .assign x => match val x with
    | .nil => true
    | _ => false
  | .alloc _ | .box .. | .buildSlice .. | .makeMap .. | .range .. => true
  | .call c => match c.callee with
    | .builtin .len => false
    | _ => true
  | _ => false
section
variable (ρ : Operand → Value) (o : Oper)
def vN (s : Sem Value) : Sem Next := do pure (.value (← s))
theorem ex_move {x : Operand} (h : o.op = .move x) : execOp ρ o = pure (.value (ρ x)) := by unfold execOp; rw [h]
theorem ex_assign {x : Operand} (h : o.op = .assign x) : execOp ρ o = pure (.value (ρ x)) := by unfold execOp; rw [h]
theorem ex_pick {x y z : Operand} (h : o.op = .pick x y z) : execOp ρ o = (do pure (.value (if ← asBool (ρ x) then ρ y else ρ z))) := by unfold execOp; rw [h]
theorem ex_alloc {t : TypeId} (h : o.op = .alloc t) : execOp ρ o = vN (Instr.alloc t true (.tuple #[])) := by unfold execOp; rw [h]; rfl
theorem ex_box {t : TypeId} {x : Operand} (h : o.op = .box t x) : execOp ρ o = vN (Instr.box t (ρ x)) := by unfold execOp; rw [h]; rfl
theorem ex_build {t : TypeId} {ps : Array (Nat × Operand)} (h : o.op = .build t ps) : execOp ρ o = vN (Instr.build t (ps.map fun p => (p.1, ρ p.2))) := by unfold execOp; rw [h]; rfl
theorem ex_bs {t : TypeId} {n : Nat} {ps : Array (Nat × Operand)} (h : o.op = .buildSlice t n ps) : execOp ρ o = vN (Instr.buildSlice t n (ps.map fun p => (p.1, ρ p.2))) := by unfold execOp; rw [h]; rfl
theorem ex_load {t : TypeId} {x : Operand} (h : o.op = .load t x) : execOp ρ o = vN (Instr.loadAt t (ρ x)) := by unfold execOp; rw [h]; rfl
theorem ex_store {t : TypeId} {x y : Operand} (h : o.op = .store t x y) : execOp ρ o = (do Instr.storeAt t (ρ x) (ρ y); pure Next.skip) := by unfold execOp; rw [h]
theorem ex_bin {op : BinOp} {t u : TypeId} {x y : Operand} (h : o.op = .binOp op t x y u) : execOp ρ o = vN (do eqGuard op t x y (ρ x) (ρ y); binOp op t (ρ x) (ρ y)) := by unfold execOp; rw [h]; rfl
theorem ex_un {op : UnOp} {t : TypeId} {x : Operand} (h : o.op = .unOp op t x) : execOp ρ o = vN (Op.unary op (ρ x)) := by unfold execOp; rw [h]; rfl
theorem ex_cv {s d : TypeId} {x : Operand} (h : o.op = .convert s d x) : execOp ρ o = vN (convert s d (ρ x)) := by unfold execOp; rw [h]; rfl
theorem ex_sl {t : TypeId} {x : Operand} {lo hi mx : Option Operand} (h : o.op = .slice t x lo hi mx) : execOp ρ o = vN (Instr.sliceAt t (ρ x) (lo.map ρ) (hi.map ρ) (mx.map ρ)) := by unfold execOp; rw [h]; rfl
theorem ex_fa {s : TypeId} {x : Operand} {q : Nat} (h : o.op = .fieldAddr s x q) : execOp ρ o = vN (Instr.fieldAt s (ρ x) q) := by unfold execOp; rw [h]; rfl
theorem ex_ia {t : TypeId} {x y : Operand} (h : o.op = .indexAddr t x y) : execOp ρ o = vN (Instr.indexAt t (ρ x) (ρ y)) := by unfold execOp; rw [h]; rfl
theorem ex_ix {t : TypeId} {x y : Operand} (h : o.op = .index t x y) : execOp ρ o = vN (Instr.index t (ρ x) (ρ y)) := by unfold execOp; rw [h]; rfl
theorem ex_ex {x : Operand} {q : Nat} (h : o.op = .extract x q) : execOp ρ o = vN (Instr.extract (ρ x) q) := by unfold execOp; rw [h]; rfl
theorem ex_mf {f : Fn} {x y : Array Operand} (h : o.op = .makeFunc f x y) : execOp ρ o = vN (Instr.makeFunc f (x.map ρ) (y.map ρ)) := by unfold execOp; rw [h]; rfl
theorem ex_mm {t : TypeId} (h : o.op = .makeMap t none) : execOp ρ o = vN (Instr.makeMap t none) := by unfold execOp; rw [h]; rfl
theorem ex_lu {t : TypeId} {x y : Operand} {b : Bool} (h : o.op = .lookup t x y b) : execOp ρ o = vN (Instr.lookup t (ρ x) (ρ y) b) := by unfold execOp; rw [h]; rfl
theorem ex_mu {t : TypeId} {x y z : Operand} (h : o.op = .mapUpdate t x y z) : execOp ρ o = (do Instr.mapUpdate t (ρ x) (ρ y) (ρ z); pure Next.skip) := by unfold execOp; rw [h]
theorem ex_rg {t : TypeId} {x : Operand} (h : o.op = .range t x) : execOp ρ o = vN (Instr.range t (ρ x)) := by unfold execOp; rw [h]; rfl
theorem ex_en {x : Operand} (h : o.op = .entry x) : execOp ρ o = vN (Instr.entry (ρ x)) := by unfold execOp; rw [h]; rfl
theorem ex_call {c : Call} (h : o.op = .call c) : execOp ρ o = (do let d ← resolve ρ c o.type; invoke d.target d.args) := by unfold execOp; rw [h]
end
theorem step_mm {P : Program} {E : En} {c : Cx} (hi : Inv E c) {mx : Bool} {x y : FV} {X Y : Value} {rs : Rs} (h : mmF mx x y = some rs) (hx : RelV c x X) (hy : RelV c y Y) {q : Result Next}
    (hq : q = (vN (if mx then Builtin.max2 X Y else Builtin.min2 X Y)).run P c.w) : Step1 E c rs q := by
  unfold mmF at h
  split at h
  case h_2 => cases h
  rename_i k m k' n
  split at h
  case isFalse => cases h
  rename_i hk
  subst hk
  simp only [Option.some.injEq] at h
  subst h
  simp only [RelV, Rep] at hx hy
  refine step_pure hi (v := .int k (if mx then (if n > m then n else m) else (if n < m then n else m))) ?_ (by simp [RelV, Rep])
  rw [hq, hx, hy]
  cases mx
  · simp [vN, Builtin.min2]
  · simp [vN, Builtin.max2]
theorem op_ok {P : Program} {E : En} {c : Cx} {o : Oper} {a : Act} {val : Operand → FV} {lk : Nat → Ob} {g : Nat} {h : Hn} {rs : Rs} {K : Act → World → Prop} {Q : Exit → Act → World → Prop} (hi : Inv E c) (hv : ∀ x, RelV c (val x) (a.eval x))
    (hlk : ∀ id, lk id = .free ∨ lk id = look c.hp id) (hop : opF P o val lk g h = some rs) (hgf : mayNew val o.op = true → ∀ j, j < 4 → look c.hp (g + j) = .free ∧ g + j < c.hp.length) (hob : rs.ob)
    (hK : ∀ v c', Inv E c' → Le c c' → c'.hp = setUps c.hp rs.ups → RelV c' rs.r v → K (a.put o.dst v) c'.w) : o.wp P a c.w K Q := by
  have hg0 : mayNew val o.op = true → look c.hp g = .free ∧ g < c.hp.length := by intro hm; have := hgf hm 0 (by omega); simpa using this
  unfold Oper.wp
  unfold opF at hop
  split at hop
  · rename_i x ho
    rw [ex_move _ _ ho]
    exact upon_step1 (step_move hi (fun hx => hg0 (by rw [ho]; simp [mayNew, hx])) hop (hv x) rfl) hK
  · rename_i x ho
    rw [ex_assign _ _ ho]
    exact upon_step1 (step_move hi (fun hx => hg0 (by rw [ho]; simp [mayNew, hx])) hop (hv x) rfl) hK
  · rename_i x y z ho
    rw [ex_pick _ _ ho]
    refine upon_step1 (rs := rs) ?_ hK
    have hx := hv x
    unfold pickF at hop
    split at hop
    · rename_i e
      rw [e] at hx
      simp only [RelV, Rep] at hx
      simp only [Option.some.injEq] at hop
      subst hop
      exact step_pure hi (by simp [hx, asBool]) (hv y)
    · rename_i e
      rw [e] at hx
      simp only [RelV, Rep] at hx
      simp only [Option.some.injEq] at hop
      subst hop
      exact step_pure hi (by simp [hx, asBool]) (hv z)
    · cases hop
  · rename_i t ho
    rw [ex_alloc _ _ ho]
    exact upon_step1 (step_allocS hi (hg0 (by rw [ho]; rfl)) (hgf (by rw [ho]; rfl) 1 (by omega)) hop) hK
  · rename_i t x ho
    rw [ex_box _ _ ho]
    exact upon_step1 (step_box hi (hg0 (by rw [ho]; rfl)) hop (hv x)) hK
  · rename_i t ps ho
    rw [ex_build _ _ ho]
    refine upon_step1 (step_build (vals := ps.map fun p => (p.1, a.eval p.2)) hi hop ?_ ?_) hK
    · simp [Function.comp_def]
    · simpa [Function.comp_def] using relVs_map hv (ps.toList.map (·.2))
  · rename_i t n ps ho
    rw [ex_bs _ _ ho]
    have h1 : mayNew val o.op = true := by rw [ho]; rfl
    have hst := step_bs (P := P) (vals := ps.map fun p => (p.1, a.eval p.2)) hi hlk (hg0 h1) hop (by simp [Function.comp_def]) (by simpa [Function.comp_def] using relVs_map hv (ps.toList.map (·.2)))
    exact upon_step1 hst hK
  · rename_i t x ho
    rw [ex_load _ _ ho]
    exact upon_step1 (step_load hi hlk hop (hv x)) hK
  · rename_i t x y ho
    rw [ex_store _ _ ho]
    exact upon_step1 (step_store hi hlk hop (hv x) (hv y)) hK
  · rename_i op t x y yt ho
    rw [ex_bin _ _ ho]
    have hst := step_bin (P := P) (X := x) (Y := y) hi hop hob (hv x) (hv y)
    exact upon_step1 hst hK
  · rename_i op t x ho
    rw [ex_un _ _ ho]
    exact upon_step1 (step_un hi hop (hv x)) hK
  · rename_i s d x ho
    rw [ex_cv _ _ ho]
    exact upon_step1 (step_cvA hi hlk hop hob (hv x)) hK
  · rename_i t x lo hi' mx ho
    rw [ex_sl _ _ ho]
    refine upon_step1 (step_sl hi hlk hop hob (hv x) ?_ ?_ ?_) hK
    · cases lo <;> simp [hv]
    · cases hi' <;> simp [hv]
    · cases mx <;> simp
  · rename_i s x q ho
    rw [ex_fa _ _ ho]
    exact upon_step1 (step_fa hi hop (hv x)) hK
  · rename_i t x ix ho
    rw [ex_ia _ _ ho]
    exact upon_step1 (step_ia hi hop hob (hv x) (hv ix)) hK
  · rename_i t x ix ho
    rw [ex_ix _ _ ho]
    exact upon_step1 (step_ix hi hop hob (hv x) (hv ix)) hK
  · rename_i x q ho
    rw [ex_ex _ _ ho]
    exact upon_step1 (step_ex hi hop (hv x)) hK
  · rename_i f first caps ho
    rw [ex_mf _ _ ho]
    split at hop
    case isFalse => cases hop
    rename_i hf
    simp only [Option.some.injEq] at hop
    subst hop
    have hf' : first = #[] := Array.eq_empty_of_size_eq_zero hf
    subst hf'
    refine upon_step1 (step_pure hi (v := .func (.func f) #[] (caps.map a.eval)) (by simp [vN, Instr.makeFunc]) ?_) hK
    simp only [RelV]
    exact ⟨_, rfl, by simpa using relVs_map hv caps.toList⟩
  · rename_i t ho
    rw [ex_mm _ _ ho]
    exact upon_step1 (step_mkMap (P := P) hi (hg0 (by rw [ho]; rfl)) hop) hK
  · rename_i t x ix ok ho
    rw [ex_lu _ _ ho]
    exact upon_step1 (step_look hi hlk hop hob (hv x) (hv ix)) hK
  · rename_i t m k x ho
    rw [ex_mu _ _ ho]
    exact upon_step1 (step_upd hi hlk hop hob (hv m) (hv k) (hv x)) hK
  · rename_i t x ho
    rw [ex_rg _ _ ho]
    exact upon_step1 (step_range hi hlk (hg0 (by rw [ho]; rfl)) hop (hv x)) hK
  · rename_i x ho
    rw [ex_en _ _ ho]
    exact upon_step1 (step_ent (P := P) hi hlk hop hob (hv x)) hK
  · rename_i cl ho
    rw [ex_call _ _ ho]
    unfold callG at hop
    split at hop
    · rename_i hcal
      split at hop
      case h_2 => cases hop
      rename_i x t hx ht
      have hx' : cl.args = #[x] := Array.toList_inj.1 hx
      have ht' : cl.argTypes = #[t] := Array.toList_inj.1 ht
      have := step_len (ty := o.type) (us := cl.argTypes) hi hop (hv x) (by rw [ht']; rfl)
      refine upon_step1 (rs := rs) ?_ hK
      simpa [resolve, hcal, hx', invoke, builtin] using this
    · rename_i hcal
      split at hop
      case h_2 => cases hop
      rename_i s x t u hx ht
      split at hop
      case isFalse => cases hop
      rename_i htu
      subst htu
      have hx' : cl.args = #[s, x] := Array.toList_inj.1 hx
      have ht' : cl.argTypes = #[t, t] := Array.toList_inj.1 ht
      have := step_app (ty := o.type) hi hlk (hg0 (by rw [ho]; simp [mayNew, hcal])) hop hob (hv s) (hv x)
      refine upon_step1 (rs := rs) ?_ hK
      simpa [resolve, hcal, hx', ht', invoke, builtin] using this
    · rename_i hcal
      split at hop
      case h_2 => cases hop
      rename_i s x t u hx ht
      have hx' : cl.args = #[s, x] := Array.toList_inj.1 hx
      have ht' : cl.argTypes = #[t, u] := Array.toList_inj.1 ht
      have := step_copy (ty := o.type) (u := u) hi hlk hop (hv s) (hv x)
      refine upon_step1 (rs := rs) ?_ hK
      simpa [resolve, hcal, hx', ht', invoke, builtin] using this
    · rename_i hcal
      split at hop
      case h_2 => cases hop
      rename_i x y hx
      have hx' : cl.args = #[x, y] := Array.toList_inj.1 hx
      refine upon_step1 (step_mm (P := P) (mx := true) hi hop (hv x) (hv y) ?_) hK
      simp [resolve, hcal, hx', invoke, builtin, Builtin.max_, vN]
    · rename_i hcal
      split at hop
      case h_2 => cases hop
      rename_i x y hx
      have hx' : cl.args = #[x, y] := Array.toList_inj.1 hx
      refine upon_step1 (step_mm (P := P) (mx := false) hi hop (hv x) (hv y) ?_) hK
      simp [resolve, hcal, hx', invoke, builtin, Builtin.min_, vN]
    · rename_i x hcal
      split at hop
      case h_2 => cases hop
      rename_i f caps hf
      have hx := hv x
      rw [hf] at hx
      split at hop
      · simp only [RelV] at hx
        obtain ⟨vs, hx, hvs⟩ := hx
        obtain ⟨⟨fn, h1, h2, h3⟩, hcalls⟩ := callX_ok (P := P) (vs := cl.args.map a.eval ++ vs) hi hlk (hgf (by rw [ho]; simp [mayNew, hcal])) hop hob (by simpa using (relVs_map hv cl.args.toList).append hvs) (R := fun v w' => K (a.put o.dst v) w') hK
        have hrun : ((do let d ← resolve a.eval cl o.type; invoke d.target d.args) : Sem Next).run P c.w = .ok (.enter f (cl.args.map a.eval ++ vs)) c.w := by
          have h3' : fn.name ≠ "runtime.NumGoroutine" := by simpa using h3
          have h2' : fn.body ≠ none := fun e => by rw [e] at h2; simp at h2
          simp [resolve, hcal, hx, Deferred.ofValue, invoke, callFunc, h1, h2', h3']
        rw [hrun, Oper.upon_enter]
        refine hcalls.mono fun e w' ⟨v, he, hR⟩ => ?_
        subst he
        exact hR
      split at hop
      case h_2 => cases hop
      simp only [RelV, RelVs] at hx
      obtain ⟨vs, hx, hvs⟩ := hx
      obtain rfl : vs = #[] := Array.toList_inj.1 hvs
      obtain ⟨⟨fn, h1, h2, h3⟩, hcalls⟩ := call_ok (P := P) (vs := cl.args.map a.eval) hi hlk (hgf (by rw [ho]; simp [mayNew, hcal])) hop hob (by simpa using relVs_map hv cl.args.toList) (R := fun v w' => K (a.put o.dst v) w') (O := fun _ => True) hK
      have hrun : ((do let d ← resolve a.eval cl o.type; invoke d.target d.args) : Sem Next).run P c.w = .ok (.enter f (cl.args.map a.eval)) c.w := by
        have h3' : fn.name ≠ "runtime.NumGoroutine" := by simpa using h3
        have h2' : fn.body ≠ none := fun e => by rw [e] at h2; simp at h2
        simp [resolve, hcal, hx, Deferred.ofValue, invoke, callFunc, h1, h2', h3']
      rw [hrun, Oper.upon_enter]
      refine hcalls.mono fun e w' ⟨v, he, hR⟩ => ?_
      subst he
      exact hR
    · cases hop
  · cases hop
structure Pt where
  d : Option Tmp
  r : FV
  ups : List (Nat × Ob)
  obs : List Prop
  rt : List Tmp
  rh : List Nat
def AllP : List Prop → Prop
  | [] => True
  | [p] => p
  | p :: ps => p ∧ AllP ps
theorem AllP.all : ∀ {l : List Prop}, AllP l → ∀ p ∈ l, p
  | [], _, p, h => by cases h
  | [q], h, p, hp => by rw [List.mem_singleton.1 hp]; exact h
  | q :: r :: l, h, p, hp => by
    rcases List.mem_cons.1 hp with rfl | hp
    · exact h.1
    · exact AllP.all (l := r :: l) h.2 p hp
def tmpsOf : Operand → List Tmp
  | .tmp t => [t]
  | _ => []
def grdT (ops : Array Oper) (o : Oper) : List Tmp :=
  match o.guard with
  | none => []
  | some (j, _) => match ops[j]? with
    | some q => q.dst.toList
    | none => []
def rtOf (ops : Array Oper) (o : Oper) : List Tmp := o.op.operands.toList.flatMap tmpsOf ++ grdT ops o
def getR (rt : List Tmp) (fr : List FV) (t : Tmp) : FV := if rt.contains t then fr.getD t .u else .u
def guardF (ops : Array Oper) (get : Tmp → FV) (o : Oper) : Option Bool :=
  match o.guard with
  | none => some true
  | some (j, want) => match ops[j]? with
    | some q => match q.dst with
      | some t => match get t with
        | .p (.bool b) => some (b == want)
        | .und => some false
        | _ => none
      | none => none
    | none => none
def refs1 : FV → List Nat
  | .sref id _ _ _ => [id]
  | .ssub id _ _ _ _ => [id]
  | .ptr id _ _ => [id]
  | .mref id m => [id, m]
  | _ => []
def refsF : FV → List Nat
  | .agg cs => cs.flatMap refs1
  | x => refs1 x
def readsHeap : Op → Bool
  | .load .. | .store .. | .buildSlice .. | .slice .. | .lookup .. | .mapUpdate .. | .range .. | .entry .. | .convert .. => true
  | .call c => match c.callee with
    | .builtin .len => false
    | _ => true
  | _ => false
def Ob.isFree : Ob → Bool
  | .free => true
  | _ => false
def addOb (p : Option Prop) (q : Prop) : Option Prop :=
  match p with
  | some p => some (p ∧ q)
  | none => some q
def ObLe (o o' : Ob) : Prop :=
  match o, o' with
  | .arr own e sz n f, .arr own' e' sz' n' f' => own = own' ∧ e = e' ∧ sz = sz' ∧ n = n' ∧ ∀ i, i < n → ∀ j, j < sz → f i j = f' i j
  | _, _ => False
def FVLe (x y : FV) : Prop := ∀ c v, RelV c x v → RelV c y v
def AVLe (x y : AV) : Prop := ∀ F w v, Rep F w x v → Rep F w y v
def decF (h : Hn) (rs : Rs) : Option Rs :=
  match h with
  | .dec b => match rs.r with
    | .p (.bool x) => some ⟨.p (.bool b), rs.ups, addOb rs.obs (x = b)⟩
    | _ => none
  | .av y => match rs.r with
    | .p x => some ⟨.p y, rs.ups, addOb rs.obs (AVLe x y)⟩
    | _ => none
  | .fv y => some ⟨y, rs.ups, addOb rs.obs (FVLe rs.r y)⟩
  | .obj o => match o with
    | .arr own e sz n f => match rs.ups.reverse with
      | (g, o0) :: us => match rs.r with
        | .sref g' e' sz' _ => if g' = g then some ⟨.sref g' e' sz' n, us.reverse ++ [(g, .arr own e sz n f)], addOb rs.obs (ObLe o0 (.arr own e sz n f))⟩ else none
        | .u => some ⟨.u, us.reverse ++ [(g, .arr own e sz n f)], addOb rs.obs (ObLe o0 (.arr own e sz n f))⟩
        | .ptr a b d => some ⟨.ptr a b d, us.reverse ++ [(g, .arr own e sz n f)], addOb rs.obs (ObLe o0 (.arr own e sz n f))⟩
        | .p (.int k q) => some ⟨.p (.int k q), us.reverse ++ [(g, .arr own e sz n f)], addOb rs.obs (ObLe o0 (.arr own e sz n f))⟩
        | _ => none
      | [] => none
    | _ => none
  | .mp es => match rs.ups.reverse with
    | (g, .reg (.map es0)) :: us => some ⟨rs.r, us.reverse ++ [(g, .reg (.map es))], addOb rs.obs (es0 = es)⟩
    | _ => none
  | _ => some rs
def hintAt (hs : List (Nat × Hn)) (i : Nat) : Hn :=
  match hs with
  | [] => .no
  | (j, h) :: hs => if j = i then h else hintAt hs i
def fresh4 (hp : List Ob) (g : Nat) : Bool := (look hp g).isFree && (look hp (g + 1)).isFree && (look hp (g + 2)).isFree && (look hp (g + 3)).isFree && decide (g + 3 < hp.length)
def rhOf (gs : Nat → Nat) (i : Nat) (h : Hn) (o : Oper) (val : Operand → FV) : List Nat :=
  (match h with | .callX ids _ _ _ => ids | _ => []) ++ (if readsHeap o.op then o.op.operands.toList.flatMap (fun x => refsF (val x)) else []) ++ (if mayNew val o.op then [gs i, gs i + 1, gs i + 2, gs i + 3] else [])
def mkPt (P : Program) (ops : Array Oper) (gs : Nat → Nat) (hs : List (Nat × Hn)) (i : Nat) (st : St) : Option Pt :=
  match ops[i]? with
  | none => none
  | some o => match guardF ops (getR (rtOf ops o) st.fr) o with
    | none => none
    | some false => some ⟨o.dst, .und, [], [], rtOf ops o, []⟩
    | some true =>
      let val := valG (getR (rtOf ops o) st.fr)
      let rh := rhOf gs i (hintAt hs i) o val
      if mayNew val o.op && !fresh4 st.hp (gs i) then none else
      match opF P o val (fun id => if rh.contains id then look st.hp id else .free) (gs i) (hintAt hs i) with
      | none => none
      | some rs => match decF (hintAt hs i) rs with
        | none => none
        | some rs => some ⟨o.dst, rs.r, rs.ups, rs.obs.toList, rtOf ops o, rh⟩
def apPt (p : Pt) (st : St) : St := ⟨match p.d with | some d => st.fr.set d p.r | none => st.fr, setUps st.hp p.ups⟩
end Go.Proofs.YtjhnpaenhdbhpacV
set_option linter.unusedVariables false
set_option linter.unusedSimpArgs false
set_option linter.constructorNameAsVariable false
namespace Go.Proofs.YtjhnpaenhdbhpacV
open Go Go.RowKit
def SRel (E : En) (st : St) (a : Act) (w : World) : Prop := (a.defers = [] ∧ ∀ t v, E.fx t v → a.tmps.getD t undef = v) ∧ ∃ c : Cx, c.w = w ∧ c.hp = st.hp ∧ Inv E c ∧ RelVs c st.fr a.tmps.toList
theorem addOb_ok {rs : Rs} {r : FV} {ups : List (Nat × Ob)} {q : Prop} (h : Rs.ob ⟨r, ups, addOb rs.obs q⟩) : rs.ob ∧ q := by
  unfold Rs.ob addOb at *
  cases ho : rs.obs with
  | none => simp only [ho] at h ⊢; exact ⟨trivial, h⟩
  | some p => simp only [ho] at h ⊢; exact h
theorem retell {E : En} {c : Cx} (hi : Inv E c) {g : Nat} {o o' : Ob} (hl : g < c.hp.length → look c.hp g = o) (h : ObLe o o') : Inv E { c with hp := c.hp.set g o' } ∧ Le c { c with hp := c.hp.set g o' } := by
  unfold ObLe at h
  split at h
  case h_2 => exact h.elim
  rename_i own e sz n f own' e' sz' n' f'
  obtain ⟨rfl, rfl, rfl, rfl, hf⟩ := h
  have hle : Le c { c with hp := c.hp.set g (.arr own e sz n f') } := by
    refine ⟨fun _ h => h, fun _ _ => rfl, fun id => ?_⟩
    show OLe (look c.hp id) (look (c.hp.set g _) id) _ _
    rw [look_set]
    split
    · rename_i hc; obtain ⟨rfl, hc⟩ := hc; rw [hl hc]; exact .inr ⟨rfl, _, _, rfl⟩
    · exact OLe.refl _ _
  have hmut : ∀ id, (look (c.hp.set g (.arr own e sz n f')) id).mut = (look c.hp id).mut := by
    intro id
    rw [look_set]
    split
    · rename_i hc; obtain ⟨rfl, hc⟩ := hc; rw [hl hc]; rfl
    · rfl
  refine ⟨⟨hi.chg, hi.f0, hi.f1, hi.lt, fun id => ?_, fun i j b h1 h2 => hi.inj i j b (by rw [← hmut]; exact h1) (by rw [← hmut]; exact h2), fun i b h1 => hi.own i b (by rw [← hmut]; exact h1)⟩, hle⟩
  show RelO _ (c.κ id) (look (c.hp.set g _) id)
  rw [look_set]
  split
  · rename_i hc
    obtain ⟨rfl, hc⟩ := hc
    have ho := hi.objs g
    rw [hl hc] at ho
    obtain ⟨h0, xs, h1, h2, h3, h4⟩ := ho
    exact ⟨h0, xs, h1, fun i hi' j hj => by obtain ⟨y, hy1, hy2⟩ := h2 i hi' j hj; exact ⟨y, hy1, by rw [← hf i hi' j hj]; exact hy2⟩, h3, h4⟩
  · exact RelO.keep hle (hi.objs id) (fun _ _ => rfl) (fun b hb hm => hi.notF hm b hb)
theorem decF_ok {h : Hn} {rs rs' : Rs} (e : decF h rs = some rs') (ho : rs'.ob) : rs.ob ∧ ∀ (E : En) (c c' : Cx) (v : Value), Inv E c' → Le c c' → c'.hp = setUps c.hp rs.ups → RelV c' rs.r v → ∃ c'', c''.w = c'.w ∧ Inv E c'' ∧ Le c c'' ∧ c''.hp = setUps c.hp rs'.ups ∧ RelV c'' rs'.r v := by
  unfold decF at e
  split at e
  · split at e
    case h_2 => cases e
    rename_i b x hx
    simp only [Option.some.injEq] at e
    subst e
    obtain ⟨h1, rfl⟩ := addOb_ok ho
    exact ⟨h1, fun E c c' v g1 g2 g3 g4 => ⟨c', rfl, g1, g2, g3, by rw [hx] at g4; exact g4⟩⟩
  · split at e
    case h_2 => cases e
    rename_i y x hx
    simp only [Option.some.injEq] at e
    subst e
    obtain ⟨h1, h2⟩ := addOb_ok ho
    refine ⟨h1, fun E c c' v g1 g2 g3 g4 => ⟨c', rfl, g1, g2, g3, ?_⟩⟩
    rw [hx] at g4
    simp only [RelV] at g4 ⊢
    exact h2 _ _ _ g4
  · rename_i y
    simp only [Option.some.injEq] at e
    subst e
    obtain ⟨h1, h2⟩ := addOb_ok ho
    exact ⟨h1, fun E c c' v g1 g2 g3 g4 => ⟨c', rfl, g1, g2, g3, h2 _ _ g4⟩⟩
  · split at e
    case h_2 => cases e
    rename_i own el sz n f
    split at e
    case h_2 => cases e
    rename_i g o0 us hus
    have hups : rs.ups = us.reverse ++ [(g, o0)] := by
      have := congrArg List.reverse hus
      simpa using this
    have key : ∀ (E : En) (c c' : Cx), Inv E c' → Le c c' → c'.hp = setUps c.hp rs.ups → ObLe o0 (.arr own el sz n f) → Inv E { c' with hp := c'.hp.set g (.arr own el sz n f) } ∧ Le c' { c' with hp := c'.hp.set g (.arr own el sz n f) } ∧ c'.hp.set g (.arr own el sz n f) = setUps c.hp (us.reverse ++ [(g, .arr own el sz n f)]) := by
      intro E c c' g1 g2 g3 hle
      have e1 : c'.hp = (setUps c.hp us.reverse).set g o0 := by rw [g3, hups, setUps_append]; rfl
      obtain ⟨i1, l1⟩ := retell g1 (g := g) (o := o0) (fun hlt => by rw [e1] at hlt ⊢; exact look_set_same _ (by simpa using hlt)) hle
      refine ⟨i1, l1, ?_⟩
      rw [setUps_append, e1, List.set_set]
      rfl
    split at e
    · rename_i g' e' sz' n0 hx
      split at e
      case isFalse => cases e
      rename_i hgg
      simp only [Option.some.injEq] at e
      subst e
      obtain ⟨h1, h2⟩ := addOb_ok ho
      refine ⟨h1, fun E c c' v g1 g2 g3 g4 => ?_⟩
      obtain ⟨i1, l1, h3⟩ := key E c c' g1 g2 g3 h2
      refine ⟨{ c' with hp := c'.hp.set g (.arr own el sz n f) }, rfl, i1, Le.trans g2 l1, h3, ?_⟩
      rw [hx] at g4
      have g5 := RelV.keep l1 _ _ g4
      subst hgg
      unfold ObLe at h2
      split at h2
      case h_2 => exact h2.elim
      rename_i own1 e1 sz1 n1 f1 own2 e2 sz2 n2 f2 heq
      simp only [Ob.arr.injEq] at heq
      obtain ⟨rfl, rfl, rfl, rfl, rfl⟩ := heq
      obtain ⟨rfl, rfl, rfl, rfl, _⟩ := h2
      simp only [RelV] at g4 g5 ⊢
      by_cases hlt : g' < c'.hp.length
      · have hl : look c'.hp g' = .arr own1 e1 sz1 n1 f1 := by
          have e3 : c'.hp = (setUps c.hp us.reverse).set g' (.arr own1 e1 sz1 n1 f1) := by rw [g3, hups, setUps_append]; rfl
          rw [e3] at hlt ⊢
          exact look_set_same _ (by simpa using hlt)
        have g6 := g4.2
        rw [hl] at g6
        obtain ⟨rfl, rfl, rfl, _⟩ := g6
        exact g5
      · have g6 := g4.2
        have hfree : look c'.hp g' = .free := by simp [look, List.getElem?_eq_none (Nat.le_of_not_lt hlt)]
        rw [hfree] at g6
        exact g6.elim
    · rename_i hx
      simp only [Option.some.injEq] at e
      subst e
      obtain ⟨h1, h2⟩ := addOb_ok ho
      refine ⟨h1, fun E c c' v g1 g2 g3 g4 => ?_⟩
      obtain ⟨i1, l1, h3⟩ := key E c c' g1 g2 g3 h2
      exact ⟨{ c' with hp := c'.hp.set g (.arr own el sz n f) }, rfl, i1, Le.trans g2 l1, h3, by simp [RelV]⟩
    · rename_i x1 x2 x3 hx
      simp only [Option.some.injEq] at e
      subst e
      obtain ⟨h1, h2⟩ := addOb_ok ho
      refine ⟨h1, fun E c c' v g1 g2 g3 g4 => ?_⟩
      obtain ⟨i1, l1, h3⟩ := key E c c' g1 g2 g3 h2
      exact ⟨{ c' with hp := c'.hp.set g (.arr own el sz n f) }, rfl, i1, Le.trans g2 l1, h3, by rw [hx] at g4; exact RelV.keep l1 _ _ g4⟩
    · rename_i k q hx
      simp only [Option.some.injEq] at e
      subst e
      obtain ⟨h1, h2⟩ := addOb_ok ho
      refine ⟨h1, fun E c c' v g1 g2 g3 g4 => ?_⟩
      obtain ⟨i1, l1, h3⟩ := key E c c' g1 g2 g3 h2
      exact ⟨{ c' with hp := c'.hp.set g (.arr own el sz n f) }, rfl, i1, Le.trans g2 l1, h3, by rw [hx] at g4; simpa [RelV, Rep] using g4⟩
    · cases e
  · split at e
    case h_2 => cases e
    rename_i g es0 us hus
    have hups : rs.ups = us.reverse ++ [(g, .reg (.map es0))] := by
      have := congrArg List.reverse hus
      simpa using this
    simp only [Option.some.injEq] at e
    subst e
    obtain ⟨h1, h2⟩ := addOb_ok ho
    subst h2
    exact ⟨h1, fun E c c' v g1 g2 g3 g4 => ⟨c', rfl, g1, g2, by rw [g3, hups], g4⟩⟩
  · simp only [Option.some.injEq] at e
    subst e
    exact ⟨ho, fun E c c' v g1 g2 g3 g4 => ⟨c', rfl, g1, g2, g3, g4⟩⟩
theorem getR_ok (rt : List Tmp) (fr : List FV) (t : Tmp) : getR rt fr t = .u ∨ getR rt fr t = fr.getD t .u := by
  unfold getR; split
  · exact .inr rfl
  · exact .inl rfl
theorem guardF_ok {c : Cx} {ops : Array Oper} {get : Tmp → FV} {fr : List FV} {a : Act} {o : Oper} {b : Bool} (h : RelVs c fr a.tmps.toList) (hg : ∀ t, get t = .u ∨ get t = fr.getD t .u) (e : guardF ops get o = some b) : Region.wanted o (yielded ops a.tmps) = b := by
  unfold guardF at e
  unfold Region.wanted
  cases hgd : o.guard with
  | none => simp only [hgd, Option.some.injEq] at e ⊢; exact e
  | some jw =>
    obtain ⟨j, want⟩ := jw
    simp only [hgd] at e ⊢
    cases hj : ops[j]? with
    | none => simp [hj] at e
    | some q =>
      cases hd : q.dst with
      | none => simp [hj, hd] at e
      | some t =>
        simp only [hj, hd] at e
        split at e
        · rename_i x hx
          simp only [Option.some.injEq] at e
          subst e
          rcases hg t with h1 | h1
          · rw [h1] at hx; cases hx
          · rw [hx] at h1
            have hl : t < fr.length := by
              rcases Nat.lt_or_ge t fr.length with h2 | h2
              · exact h2
              · simp [List.getD_eq_getElem?_getD, List.getElem?_eq_none h2] at h1
            obtain ⟨v, h2, h3⟩ := h.get t hl
            have h4 : fr[t] = .p (.bool x) := by
              simp only [List.getD_eq_getElem?_getD, List.getElem?_eq_getElem hl, Option.getD_some] at h1
              exact h1.symm
            rw [h4] at h3
            simp only [RelV, Rep] at h3
            subst h3
            have h5 : a.tmps[t]? = some (.bool x) := by simpa using h2
            simp [yielded, hj, hd, h5]
        · rename_i hx
          simp only [Option.some.injEq] at e
          subst e
          rcases hg t with h1 | h1
          · rw [h1] at hx; cases hx
          · rw [hx] at h1
            have hl : t < fr.length := by
              rcases Nat.lt_or_ge t fr.length with h2 | h2
              · exact h2
              · simp [List.getD_eq_getElem?_getD, List.getElem?_eq_none h2] at h1
            obtain ⟨v, h2, h3⟩ := h.get t hl
            have h4 : fr[t] = .und := by
              simp only [List.getD_eq_getElem?_getD, List.getElem?_eq_getElem hl, Option.getD_some] at h1
              exact h1.symm
            rw [h4] at h3
            simp only [RelV] at h3
            subst h3
            have h5 : a.tmps[t]? = some undef := by simpa using h2
            simp [yielded, hj, hd, h5, undef]
        · cases e
theorem isFree_eq {o : Ob} (h : o.isFree = true) : o = .free := by cases o <;> first | rfl | simp [Ob.isFree] at h
theorem mkPt_ok {P : Program} {E : En} {c : Cx} {ops : Array Oper} {gs : Nat → Nat} {hs : List (Nat × Hn)} {i : Nat} {st : St} {p : Pt} {a : Act} {Q : Exit → Act → World → Prop} {K : Act → World → Prop} (hi : Inv E c) (hhp : c.hp = st.hp) (hfr : RelVs c st.fr a.tmps.toList)
    (hm : mkPt P ops gs hs i st = some p) (hob : ∀ q ∈ p.obs, q) (hK : ∀ a' c', (a'.defers = a.defers ∧ ∀ t, (∀ o, ops[i]? = some o → o.dst ≠ some t) → a'.tmps.getD t undef = a.tmps.getD t undef) → Inv E c' → c'.hp = (apPt p st).hp → RelVs c' (apPt p st).fr a'.tmps.toList → K a' c'.w) : wpOp P ops Q i K a c.w := by
  unfold mkPt at hm
  unfold wpOp
  cases ho : ops[i]? with
  | none => simp [ho] at hm
  | some o =>
    simp only [ho] at hm ⊢
    have hput : ∀ (c' : Cx) (r : FV) (v : Value), RelVs c' st.fr a.tmps.toList → RelV c' r v → RelVs c' (match o.dst with | some d => st.fr.set d r | none => st.fr) (a.put o.dst v).tmps.toList := by
      intro c' r v h1 h2
      cases hd : o.dst with
      | none => exact h1
      | some d => exact relVs_put h1 h2 d
    have hdef : ∀ v, (a.put o.dst v).defers = a.defers ∧ ∀ t, (∀ o', ops[i]? = some o' → o'.dst ≠ some t) → (a.put o.dst v).tmps.getD t undef = a.tmps.getD t undef := by
      intro v
      refine ⟨by cases o.dst <;> rfl, fun t ht => ?_⟩
      have h1 := ht o ho
      cases hd : o.dst with
      | none => rfl
      | some d =>
        rw [hd] at h1
        have hne : d ≠ t := fun e => h1 (by rw [e])
        simp only [Act.put, Array.getD_eq_getD_getElem?, Array.getElem?_setIfInBounds_ne hne]
    cases hgd : guardF ops (getR (rtOf ops o) st.fr) o with
    | none => simp [hgd] at hm
    | some b =>
      have hw := guardF_ok hfr (getR_ok (rtOf ops o) st.fr) hgd
      cases b with
      | false =>
        simp only [hgd, Option.some.injEq] at hm
        subst hm
        rw [hw]
        simp only [Bool.false_eq_true, if_false]
        exact hK _ c (hdef _) hi hhp (hput c .und undef hfr (by simp [RelV]))
      | true =>
        rw [hw]
        simp only [if_true]
        left
        simp only [hgd] at hm
        split at hm
        case isTrue => cases hm
        rename_i hfresh
        split at hm
        case h_1 => cases hm
        rename_i rs hop
        split at hm
        case h_1 => cases hm
        rename_i rs' hdec
        simp only [Option.some.injEq] at hm
        subst hm
        have hob' : rs'.ob := by
          unfold Rs.ob
          cases hq : rs'.obs with
          | none => trivial
          | some q => exact hob q (by simp [hq])
        obtain ⟨hob1, hrel⟩ := decF_ok hdec hob'
        refine op_ok hi (fun x => relV_valG hfr (getR_ok _ _) x) (fun id => ?_) hop (fun hmn => ?_) hob1 (fun v c' h1 h2 h3 h4 => ?_)
        · split
          · right; rw [hhp]
          · left; rfl
        · rw [hmn] at hfresh
          simp only [Bool.true_and, Bool.not_eq_true', Bool.not_eq_false] at hfresh
          simp only [fresh4, Bool.and_eq_true, decide_eq_true_eq] at hfresh
          obtain ⟨⟨⟨⟨f0, f1⟩, f2⟩, f3⟩, f4⟩ := hfresh
          intro j hj
          rw [hhp]
          refine ⟨?_, by omega⟩
          rcases j with _ | _ | _ | _ | j
          · exact isFree_eq f0
          · exact isFree_eq f1
          · exact isFree_eq f2
          · exact isFree_eq f3
          · omega
        · obtain ⟨c'', k1, k2, k3, k4, k5⟩ := hrel E c c' v h1 h2 h3 h4
          have := hK _ c'' (hdef v) k2 (by show c''.hp = setUps st.hp rs'.ups; rw [k4, hhp]) (hput c'' rs'.r v (RelVs.keep k3 _ _ hfr) k5)
          rw [k1] at this
          exact this
def Val (mk : Nat → St → Option Pt) : List (Nat × Pt) → St → St → Prop
  | [], st, st' => st' = st
  | (i, p) :: l, st, st' => mk i st = some p ∧ Val mk l (apPt p st) st'
def ids (l : List (Nat × Ob)) : List Nat := l.map (·.1)
def dj (a b : List Nat) : Bool := a.all fun x => !b.contains x
def dj1 (d : Option Tmp) (b : List Nat) : Bool :=
  match d with
  | some d => !b.contains d
  | none => true
def indep (p q : Pt) : Bool := dj1 p.d q.rt && dj1 p.d q.d.toList && dj1 q.d p.rt && dj (ids p.ups) q.rh && dj (ids p.ups) (ids q.ups) && dj (ids q.ups) p.rh
theorem dj_spec {a b : List Nat} (h : dj a b = true) : ∀ x ∈ a, x ∉ b := fun x hx hb => by
  have := List.all_eq_true.1 h x hx
  simp [hb] at this
theorem dj1_spec {d : Option Tmp} {b : List Nat} (h : dj1 d b = true) : ∀ x, d = some x → x ∉ b := by
  rintro x rfl hb
  simp [dj1, hb] at h
theorem mkPt_congr {P : Program} {ops : Array Oper} {gs : Nat → Nat} {hs : List (Nat × Hn)} {i : Nat} {st st' : St} {p : Pt} (h : mkPt P ops gs hs i st = some p) (hf : ∀ t ∈ p.rt, st'.fr.getD t .u = st.fr.getD t .u) (hh : ∀ id ∈ p.rh, look st'.hp id = look st.hp id) (hl : st'.hp.length = st.hp.length) :
    mkPt P ops gs hs i st' = some p := by
  unfold mkPt at h ⊢
  cases ho : ops[i]? with
  | none => simp [ho] at h
  | some o =>
    simp only [ho] at h ⊢
    have hget : p.rt = rtOf ops o → getR (rtOf ops o) st'.fr = getR (rtOf ops o) st.fr := by
      intro e
      funext t
      unfold getR
      split
      · rename_i hc
        exact hf t (by rw [e]; simpa using hc)
      · rfl
    cases hgd : guardF ops (getR (rtOf ops o) st.fr) o with
    | none => simp [hgd] at h
    | some b =>
      cases b with
      | false =>
        simp only [hgd, Option.some.injEq] at h
        have e : p.rt = rtOf ops o := by rw [← h]
        rw [hget e, hgd]
        simp only [h]
      | true =>
        simp only [hgd] at h
        split at h
        case isTrue => cases h
        rename_i hfresh
        split at h
        case h_1 => cases h
        rename_i rs hop
        split at h
        case h_1 => cases h
        rename_i rs' hdec
        simp only [Option.some.injEq] at h
        have e : p.rt = rtOf ops o := by rw [← h]
        have erh : p.rh = rhOf gs i (hintAt hs i) o (valG (getR (rtOf ops o) st.fr)) := by rw [← h]
        rw [hget e, hgd]
        simp only
        have hfr : (mayNew (valG (getR (rtOf ops o) st.fr)) o.op && !fresh4 st'.hp (gs i)) = (mayNew (valG (getR (rtOf ops o) st.fr)) o.op && !fresh4 st.hp (gs i)) := by
          cases hm : mayNew (valG (getR (rtOf ops o) st.fr)) o.op with
          | false => rfl
          | true =>
            unfold rhOf at erh
            rw [hm] at erh
            have hin : ∀ j, j ∈ [gs i, gs i + 1, gs i + 2, gs i + 3] → look st'.hp j = look st.hp j := fun j hj => hh j (by rw [erh]; simp at hj ⊢; right; right; exact hj)
            unfold fresh4
            rw [hin _ (by simp), hin (gs i + 1) (by simp), hin (gs i + 2) (by simp), hin (gs i + 3) (by simp), hl]
        rw [hfr, if_neg hfresh]
        have hlk : (fun id => if (rhOf gs i (hintAt hs i) o (valG (getR (rtOf ops o) st.fr))).contains id then look st'.hp id else Ob.free)
            = (fun id => if (rhOf gs i (hintAt hs i) o (valG (getR (rtOf ops o) st.fr))).contains id then look st.hp id else Ob.free) := by
          funext id
          split
          · rename_i hc
            exact hh id (by rw [erh]; simpa using hc)
          · rfl
        rw [hlk, hop]
        simp only [hdec, h]
theorem getD_set_ne' {fr : List FV} {d t : Tmp} {r : FV} (h : d ≠ t) : (fr.set d r).getD t .u = fr.getD t .u := by
  rw [List.getD_eq_getElem?_getD, List.getD_eq_getElem?_getD, List.getElem?_set_ne h]
theorem apPt_fr {p : Pt} {st : St} {t : Tmp} (h : ∀ d, p.d = some d → d ≠ t) : (apPt p st).fr.getD t .u = st.fr.getD t .u := by
  unfold apPt
  cases hd : p.d with
  | none => rfl
  | some d => exact getD_set_ne' (h d hd)
theorem look_setUps {id : Nat} : ∀ (ups : List (Nat × Ob)) (hp : List Ob), id ∉ ids ups → look (setUps hp ups) id = look hp id
  | [], hp, _ => rfl
  | u :: us, hp, h => by
    simp only [ids, List.map_cons, List.mem_cons, not_or] at h
    show look (setUps (hp.set u.1 u.2) us) id = _
    rw [look_setUps us _ h.2, look_set_ne _ (Ne.symm h.1)]
theorem set_setUps {i : Nat} {o : Ob} : ∀ (ups : List (Nat × Ob)) (hp : List Ob), i ∉ ids ups → setUps (hp.set i o) ups = (setUps hp ups).set i o
  | [], hp, _ => rfl
  | u :: us, hp, h => by
    simp only [ids, List.map_cons, List.mem_cons, not_or] at h
    show setUps ((hp.set i o).set u.1 u.2) us = _
    rw [List.set_comm _ _ h.1]
    exact set_setUps us _ h.2
theorem setUps_comm : ∀ (a b : List (Nat × Ob)) (hp : List Ob), (∀ x ∈ ids a, x ∉ ids b) → setUps (setUps hp a) b = setUps (setUps hp b) a
  | [], b, hp, _ => rfl
  | u :: us, b, hp, h => by
    simp only [ids, List.map_cons, List.mem_cons, forall_eq_or_imp] at h
    show setUps (setUps (hp.set u.1 u.2) us) b = setUps ((setUps hp b).set u.1 u.2) us
    rw [setUps_comm us b _ h.2, set_setUps b hp h.1]
theorem apPt_comm {p q : Pt} (h : indep p q = true) (st : St) : apPt p (apPt q st) = apPt q (apPt p st) := by
  simp only [indep, Bool.and_eq_true] at h
  obtain ⟨⟨⟨⟨⟨h1, h2⟩, h3⟩, h4⟩, h5⟩, h6⟩ := h
  unfold apPt
  congr 1
  · cases hp : p.d with
    | none => rfl
    | some d =>
      cases hq : q.d with
      | none => rfl
      | some e =>
        have : d ≠ e := fun heq => dj1_spec h2 d hp (by rw [hq]; simp [heq])
        exact List.set_comm _ _ (Ne.symm this)
  · exact (setUps_comm p.ups q.ups st.hp (dj_spec h5)).symm
theorem Val.front {P : Program} {ops : Array Oper} {gs : Nat → Nat} {hs : List (Nat × Hn)} {x : Nat × Pt} {B : List (Nat × Pt)} : ∀ (A : List (Nat × Pt)) (st st' : St), Val (mkPt P ops gs hs) (A ++ x :: B) st st' → (∀ y ∈ A, indep y.2 x.2 = true) → Val (mkPt P ops gs hs) (x :: (A ++ B)) st st'
  | [], st, st', h, _ => h
  | y :: A, st, st', h, hA => by
    obtain ⟨h1, h2⟩ := h
    obtain ⟨h3, h4⟩ := Val.front A _ _ h2 (fun z hz => hA z (by simp [hz]))
    have hin := hA y (by simp)
    have hin' := hin
    simp only [indep, Bool.and_eq_true] at hin'
    obtain ⟨⟨⟨⟨⟨g1, g2⟩, g3⟩, g4⟩, g5⟩, g6⟩ := hin'
    have e1 : mkPt P ops gs hs x.1 st = some x.2 :=
      mkPt_congr h3 (fun t ht => (apPt_fr fun d hd e => dj1_spec g1 d hd (e ▸ ht)).symm)
        (fun id hid => (look_setUps _ _ fun hc => dj_spec g4 id hc hid).symm) (setUps_length _ _).symm
    have e2 : mkPt P ops gs hs y.1 (apPt x.2 st) = some y.2 :=
      mkPt_congr h1 (fun t ht => apPt_fr fun d hd e => dj1_spec g3 d hd (e ▸ ht))
        (fun id hid => look_setUps _ _ fun hc => dj_spec g6 id hc hid) (setUps_length _ _)
    refine ⟨e1, e2, ?_⟩
    rw [apPt_comm hin st]
    exact h4
def preds (o : Oper) : List Nat := (o.after.toList.filter (Region.binds .any)).map (·.on)
def addAnc (tab : List Nat) (m d : Nat) : Nat := m ||| (1 <<< d) ||| tab.getD d 0
def ancOf (tab : List Nat) (o : Oper) : Nat := (preds o).foldl (addAnc tab) 0
def ancs : List Oper → List Nat → List Nat
  | [], tab => tab
  | o :: os, tab => ancs os (tab ++ [ancOf tab o])
theorem testBit_one_shl {d i : Nat} (h : Nat.testBit (1 <<< d) i = true) : i = d := by
  rw [Nat.testBit_shiftLeft] at h
  simp only [Bool.and_eq_true, decide_eq_true_eq] at h
  have h2 : Nat.testBit 1 (i - d) = true := h.2
  rw [Nat.testBit_one_eq_true_iff_self_eq_zero] at h2
  omega
theorem foldl_anc {tab : List Nat} : ∀ (l : List Nat) (m i : Nat), Nat.testBit (l.foldl (addAnc tab) m) i = true → Nat.testBit m i = true ∨ i ∈ l ∨ ∃ d ∈ l, Nat.testBit (tab.getD d 0) i = true
  | [], m, i, h => .inl h
  | d :: l, m, i, h => by
    rcases foldl_anc l (addAnc tab m d) i h with h | h | ⟨q, hq, h⟩
    · unfold addAnc at h
      rw [Nat.testBit_or, Nat.testBit_or] at h
      simp only [Bool.or_eq_true] at h
      rcases h with (h | h) | h
      · exact .inl h
      · exact .inr (.inl (by rw [testBit_one_shl h]; simp))
      · exact .inr (.inr ⟨d, by simp, h⟩)
    · exact .inr (.inl (by simp [h]))
    · exact .inr (.inr ⟨q, by simp [hq], h⟩)
theorem ancs_prefix : ∀ (os : List Oper) (tab : List Nat), ∃ r, ancs os tab = tab ++ r
  | [], tab => ⟨[], by simp [ancs]⟩
  | o :: os, tab => by
    obtain ⟨r, h⟩ := ancs_prefix os (tab ++ [ancOf tab o])
    exact ⟨ancOf tab o :: r, by rw [ancs, h]; simp⟩
theorem ancs_spec : ∀ (os : List Oper) (tab : List Nat) (j : Nat) (o : Oper), os[j]? = some o → ∀ i, Nat.testBit ((ancs os tab).getD (tab.length + j) 0) i = true → i ∈ preds o ∨ ∃ d ∈ preds o, Nat.testBit ((ancs os tab).getD d 0) i = true
  | [], tab, j, o, h => by simp at h
  | q :: os, tab, j, o, h => by
    intro i hi
    cases j with
    | zero =>
      simp only [List.getElem?_cons_zero, Option.some.injEq] at h
      subst h
      obtain ⟨r, hr⟩ := ancs_prefix os (tab ++ [ancOf tab q])
      rw [ancs, hr] at hi ⊢
      simp only [Nat.add_zero, List.append_assoc, List.getD_eq_getElem?_getD, List.getElem?_append_right (Nat.le_refl _), Nat.sub_self, List.singleton_append, List.getElem?_cons_zero, Option.getD_some] at hi
      unfold ancOf at hi
      rcases foldl_anc (preds q) 0 i hi with h | h | ⟨d, hd, h⟩
      · simp at h
      · exact .inl h
      · refine .inr ⟨d, hd, ?_⟩
        have hlt : d < tab.length := by
          rcases Nat.lt_or_ge d tab.length with h' | h'
          · exact h'
          · rw [List.getD_eq_getElem?_getD, List.getElem?_eq_none h'] at h; simp at h
        rw [List.getD_eq_getElem?_getD, List.append_assoc, List.getElem?_append_left hlt, ← List.getD_eq_getElem?_getD]
        exact h
    | succ j =>
      have := ancs_spec os (tab ++ [ancOf tab q]) j o (by simpa using h) i (by
        rw [ancs] at hi
        simpa [Nat.add_assoc, Nat.add_comm 1 j] using hi)
      rw [ancs]
      exact this
def pairsOk (tab : List Nat) : List (Nat × Pt) → Bool
  | [] => true
  | x :: l => l.all (fun y => Nat.testBit (tab.getD y.1 0) x.1 || indep x.2 y.2) && pairsOk tab l
theorem pairsOk_mid {tab : List Nat} {x : Nat × Pt} {B : List (Nat × Pt)} : ∀ (A : List (Nat × Pt)), pairsOk tab (A ++ x :: B) = true → (∀ y ∈ A, ¬ Nat.testBit (tab.getD x.1 0) y.1 = true) → (∀ y ∈ A, indep y.2 x.2 = true) ∧ pairsOk tab (A ++ B) = true
  | [], h, _ => ⟨fun y hy => by simp at hy, by simp only [List.nil_append, pairsOk, Bool.and_eq_true] at h; exact h.2⟩
  | y :: A, h, hA => by
    simp only [List.cons_append, pairsOk, Bool.and_eq_true] at h
    obtain ⟨h1, h2⟩ := pairsOk_mid A h.2 (fun z hz => hA z (by simp [hz]))
    have hx := List.all_eq_true.1 h.1 x (by simp)
    have hn := hA y (by simp)
    refine ⟨fun z hz => ?_, ?_⟩
    · rcases List.mem_cons.1 hz with rfl | hz
      · simp only [Bool.or_eq_true] at hx
        exact hx.resolve_left hn
      · exact h1 z hz
    · simp only [List.cons_append, pairsOk, Bool.and_eq_true]
      refine ⟨List.all_eq_true.2 fun z hz => List.all_eq_true.1 h.1 z ?_, h2⟩
      simp only [List.mem_append] at hz ⊢
      exact hz.imp id (fun h => by simp [h])
theorem any_ok {P : Program} {E : En} {ops : Array Oper} {gs : Nat → Nat} {hs : List (Nat × Hn)} {st' : St} : ∀ (fuel : Nat) (listed : Array Bool) (R : List (Nat × Pt)) (st : St) (a : Act) (w : World), listed.size = ops.size → R.length ≤ fuel →
    (∀ i o, ops[i]? = some o → ∀ d ∈ preds o, d < i) → (∀ i, (∃ p, (i, p) ∈ R) ↔ listed.getD i true = false) → (R.map (·.1)).Nodup → pairsOk (ancs ops.toList []) R = true → (∀ i, listed.getD i false = true → ∀ j, Nat.testBit ((ancs ops.toList []).getD i 0) j = true → listed.getD j false = true) →
    (∀ x ∈ R, ∀ q ∈ x.2.obs, q) → (∀ t v, E.fx t v → ∀ o, o ∈ ops.toList → o.dst ≠ some t) → Val (mkPt P ops gs hs) R st st' → SRel E st a w → wpAny P .any ops (fun e a w => e = .normal ∧ SRel E st' a w) fuel listed a w := by
  intro fuel
  induction fuel with
  | zero =>
    intro listed R st a w hsz hR hfw hin hnd hpo hcl hob hfx hv hrel
    have hR0 : R = [] := List.eq_nil_of_length_eq_zero (by omega)
    subst hR0
    refine ⟨List.eq_nil_iff_forall_not_mem.2 fun i hi => ?_, rfl, by rw [show st' = st from hv]; exact hrel⟩
    obtain ⟨p, hp⟩ := (hin i).2 (mem_ready.1 hi).1
    simp at hp
  | succ fuel ih =>
    intro listed R st a w hsz hR hfw hin hnd hpo hcl hob hfx hv hrel
    have hord : ∀ i ∈ Region.ready .any ops listed, ∀ j, Nat.testBit ((ancs ops.toList []).getD i 0) j = true → listed.getD j false = true := by
      intro i hi j hj
      obtain ⟨_, o, ho, hpre⟩ := mem_ready.1 hi
      have hpl : ∀ d ∈ preds o, listed.getD d false = true := by
        intro d hd
        obtain ⟨e, he, rfl⟩ := List.mem_map.1 hd
        obtain ⟨he1, he2⟩ := List.mem_filter.1 he
        exact hpre e (by simpa using he1) he2
      rcases ancs_spec ops.toList [] i o (by simpa using ho) j (by simpa using hj) with h | ⟨d, hd, h⟩
      · exact hpl j h
      · exact hcl d (hpl d hd) j h
    refine ⟨fun hnone => ?_, fun i hi => ?_⟩
    · cases R with
      | nil => exact ⟨rfl, by rw [show st' = st from hv]; exact hrel⟩
      | cons x R =>
        exfalso
        have hx : listed.getD x.1 true = false := (hin x.1).1 ⟨x.2, by simp⟩
        obtain ⟨i, hi, hmin⟩ : ∃ i, listed.getD i true = false ∧ ∀ j, j < i → listed.getD j true ≠ false := by
          have key : ∀ n, listed.getD n true = false → ∃ i, listed.getD i true = false ∧ ∀ j, j < i → listed.getD j true ≠ false := by
            intro n
            induction n using Nat.strongRecOn with
            | _ n ihn =>
              intro hn
              by_cases h : ∃ j, j < n ∧ listed.getD j true = false
              · obtain ⟨j, hj, hjn⟩ := h
                exact ihn j hj hjn
              · exact ⟨n, hn, fun j hj hjf => h ⟨j, hj, hjf⟩⟩
          exact key x.1 hx
        have hlt : i < listed.size := by
          rcases Nat.lt_or_ge i listed.size with h | h
          · exact h
          · simp [Array.getElem?_eq_none h] at hi
        have hlt' : i < ops.size := by omega
        have hmem : i ∈ Region.ready .any ops listed := by
          refine mem_ready.2 ⟨hi, ops[i], Array.getElem?_eq_getElem hlt', fun e he hb => ?_⟩
          have hd : e.on < i := hfw i ops[i] (Array.getElem?_eq_getElem hlt') e.on (List.mem_map.2 ⟨e, List.mem_filter.2 ⟨by simpa using he, hb⟩, rfl⟩)
          have h1 := hmin e.on hd
          have hle : e.on < listed.size := by omega
          simp [hle] at h1 ⊢
          exact h1
        rw [hnone] at hmem
        simp at hmem
    · have hil := (mem_ready.1 hi).1
      obtain ⟨p, hp⟩ := (hin i).2 hil
      obtain ⟨A, B, rfl⟩ := List.append_of_mem hp
      have hA : ∀ y ∈ A, ¬ Nat.testBit ((ancs ops.toList []).getD i 0) y.1 = true := by
        intro y hy hc
        have h1 := hord i hi y.1 hc
        have h2 := (hin y.1).1 ⟨y.2, by simp [hy]⟩
        have hlt : y.1 < listed.size := by
          rcases Nat.lt_or_ge y.1 listed.size with h | h
          · exact h
          · simp [Array.getElem?_eq_none h] at h1
        simp [Array.getElem?_eq_getElem hlt] at h1 h2
        rw [h1] at h2
        cases h2
      obtain ⟨hindep, hpo'⟩ := pairsOk_mid A hpo hA
      obtain ⟨hm, hv'⟩ := Val.front A st st' hv hindep
      obtain ⟨hd, c, rfl, hhp, hinv, hfr⟩ := hrel
      refine mkPt_ok hinv hhp hfr hm (hob (i, p) (by simp)) fun a' c' h1 h2 h3 h4 => ?_
      refine ih (listed.setIfInBounds i true) (A ++ B) (apPt p st) a' c'.w (by simpa using hsz) (by simp at hR ⊢; omega) hfw (fun j => ?_) ?_ hpo' (fun j hj q hq => ?_) (fun x hx => hob x ?_) hfx hv' ⟨⟨by rw [h1.1]; exact hd.1, fun t v ht => (h1.2 t (fun o ho => hfx t v ht o (by rw [Array.mem_toList_iff]; exact Array.mem_of_getElem? ho))).trans (hd.2 t v ht)⟩, c', rfl, h3, h2, h4⟩
      · have hnd' : i ∉ (A ++ B).map (·.1) := by
          simp only [List.map_append, List.map_cons, List.nodup_append, List.nodup_cons] at hnd
          simp only [List.map_append, List.mem_append, not_or]
          exact ⟨fun h => hnd.2.2 i h i (by simp) rfl, hnd.2.1.1⟩
        constructor
        · rintro ⟨q, hq⟩
          have hji : j ≠ i := fun e => hnd' (by rw [← e]; exact List.mem_map.2 ⟨(j, q), hq, rfl⟩)
          rw [getD_set_ne true (Ne.symm hji)]
          exact (hin j).1 ⟨q, by simp only [List.mem_append, List.mem_cons] at hq ⊢; exact hq.imp id .inr⟩
        · intro hj
          have hji : i ≠ j := by
            rintro rfl
            have hlt : i < listed.size := by
              rcases Nat.lt_or_ge i listed.size with h | h
              · exact h
              · simp [Array.getElem?_eq_none h] at hil
            simp [hlt] at hj
          rw [getD_set_ne true hji] at hj
          obtain ⟨q, hq⟩ := (hin j).2 hj
          refine ⟨q, ?_⟩
          simp only [List.mem_append, List.mem_cons, Prod.mk.injEq] at hq ⊢
          rcases hq with h | ⟨h, _⟩ | h
          · exact .inl h
          · exact absurd h.symm hji
          · exact .inr h
      · simp only [List.map_append, List.map_cons, List.nodup_append, List.nodup_cons] at hnd ⊢
        exact ⟨hnd.1, hnd.2.1.2, fun x hx y hy => hnd.2.2 x hx y (by simp [hy])⟩
      · by_cases e : i = j
        · subst e
          exact getD_set_true (hord i hi q hq)
        · rw [getD_set_ne false e] at hj
          exact getD_set_true (hcl j hj q hq)
      · simp only [List.mem_append, List.mem_cons] at hx ⊢
        exact hx.imp id .inr
end Go.Proofs.YtjhnpaenhdbhpacV
set_option linter.unusedVariables false
set_option linter.unusedSimpArgs false
set_option linter.constructorNameAsVariable false
namespace Go.Proofs.YtjhnpaenhdbhpacV
open Go Go.RowKit
def runR (mk : Nat → St → Option Pt) : List Nat → St → Option (List (Nat × Pt) × St)
  | [], st => some ([], st)
  | i :: l, st => match mk i st with
    | none => none
    | some p => match runR mk l (apPt p st) with
      | none => none
      | some (ps, st') => some ((i, p) :: ps, st')
theorem runR_val {mk : Nat → St → Option Pt} : ∀ (l : List Nat) (st st' : St) (ps : List (Nat × Pt)), runR mk l st = some (ps, st') → Val mk ps st st' ∧ ps.map (·.1) = l
  | [], st, st', ps, h => by
    simp only [runR, Option.some.injEq, Prod.mk.injEq] at h
    obtain ⟨rfl, rfl⟩ := h
    exact ⟨rfl, rfl⟩
  | i :: l, st, st', ps, h => by
    simp only [runR] at h
    split at h
    case h_1 => cases h
    rename_i p hp
    split at h
    case h_1 => cases h
    rename_i ps' st'' hr
    simp only [Option.some.injEq, Prod.mk.injEq] at h
    obtain ⟨rfl, rfl⟩ := h
    obtain ⟨h1, h2⟩ := runR_val l _ _ _ hr
    exact ⟨⟨hp, h1⟩, by simp [h2]⟩
def opNews (o : Oper) : Bool :=
  match o.op with
  | .move (.const (.slice none 0 0)) | .assign (.const (.slice none 0 0)) => true
  | .alloc _ | .box .. | .buildSlice .. | .makeMap .. | .range .. => true
  | .call c => match c.callee with
    | .builtin .len => false
    | _ => true
  | _ => false
def gAt (ops : List Oper) (c0 i : Nat) : Nat := c0 + 4 * (ops.take i).countP opNews
def fwd : List Oper → Nat → Bool
  | [], _ => true
  | o :: os, i => (preds o).all (fun d => decide (d < i)) && fwd os (i + 1)
theorem fwd_spec : ∀ (os : List Oper) (i : Nat), fwd os i = true → ∀ j o, os[j]? = some o → ∀ d ∈ preds o, d < i + j
  | [], i, h, j, o, ho => by simp at ho
  | q :: os, i, h, j, o, ho => by
    simp only [fwd, Bool.and_eq_true] at h
    cases j with
    | zero =>
      simp only [List.getElem?_cons_zero, Option.some.injEq] at ho
      subst ho
      intro d hd
      simpa using List.all_eq_true.1 h.1 d hd
    | succ j =>
      intro d hd
      have := fwd_spec os (i + 1) h.2 j o (by simpa using ho) d hd
      omega
def regF (P : Program) (ops : Array Oper) (draw : Bool) (hs : List (Nat × Hn)) (st : St) : Option (St × List Prop) :=
  match runR (mkPt P ops (gAt ops.toList st.hp.length) hs) (List.range ops.size) ⟨st.fr, st.hp ++ List.replicate (4 * ops.toList.countP opNews) .free⟩ with
  | none => none
  | some (ps, st') => if !draw || (fwd ops.toList 0 && pairsOk (ancs ops.toList []) ps) then some (st', ps.flatMap (·.2.obs)) else none
theorem look_pad (hp : List Ob) (n : Nat) (id : Nat) : look (hp ++ List.replicate n .free) id = look hp id := by
  unfold look
  rw [List.getD_eq_getElem?_getD, List.getD_eq_getElem?_getD]
  rcases Nat.lt_or_ge id hp.length with h | h
  · rw [List.getElem?_append_left h]
  · rw [List.getElem?_append_right h, List.getElem?_eq_none h, List.getElem?_replicate]
    split <;> rfl
theorem Inv.alike {E : En} {c : Cx} {hp : List Ob} {w' : World} (hi : Inv E c) (h : ∀ id, look hp id = look c.hp id) (hw : w'.heap = c.w.heap) (ht : w'.tape = c.w.tape) (ho : w'.os = c.w.os) (hu : w'.output = c.w.output) (hdr : c.w.drawn ≤ w'.drawn) : Inv E ⟨c.F, w', c.κ, hp⟩ ∧ Le c ⟨c.F, w', c.κ, hp⟩ := by
  have hle : Le c ⟨c.F, w', c.κ, hp⟩ := ⟨fun _ h => h, fun b _ => by show w'.heap[b]? = _; rw [hw], fun id => by show OLe _ (look hp id) _ _; rw [h]; exact OLe.refl _ _⟩
  refine ⟨⟨⟨ho.trans hi.chg.os, ht.trans hi.chg.tape, hu.trans hi.chg.output, Nat.le_trans hi.chg.drawn hdr, by show _ ≤ w'.heap.size; rw [hw]; exact hi.chg.size, fun b hb hM => by show w'.heap[b]? = _; rw [hw]; exact hi.chg.block b hb hM⟩, hi.f0, hi.f1, fun b hb => by show b < w'.heap.size; rw [hw]; exact hi.lt b hb, fun id => ?_, fun i j b h1 h2 h3 h4 => ?_, fun i b h1 h2 => ?_⟩, hle⟩
  · show RelO _ (c.κ id) (look hp id)
    rw [h]
    exact RelO.keep hle (hi.objs id) (fun b _ => by show w'.heap[b]? = _; rw [hw]) (fun b hb hm => hi.notF hm b hb)
  · have h1' : (look hp i).mut = true := h1
    have h2' : (look hp j).mut = true := h2
    rw [h] at h1' h2'
    exact hi.inj i j b h1' h2' h3 h4
  · have h1' : (look hp i).mut = true := h1
    rw [h] at h1'
    exact hi.own i b h1' h2
theorem SRel.alike {E : En} {st : St} {hp : List Ob} {a : Act} {w w' : World} (hr : SRel E st a w) (h : ∀ id, look hp id = look st.hp id) (hw : w'.heap = w.heap) (ht : w'.tape = w.tape) (ho : w'.os = w.os) (hu : w'.output = w.output) (hdr : w.drawn ≤ w'.drawn) : SRel E ⟨st.fr, hp⟩ a w' := by
  obtain ⟨hd, c, rfl, hhp, hi, hf⟩ := hr
  obtain ⟨i1, l1⟩ := hi.alike (hp := hp) (w' := w') (fun id => by rw [hhp]; exact h id) hw ht ho hu hdr
  exact ⟨hd, ⟨c.F, w', c.κ, hp⟩, rfl, rfl, i1, RelVs.keep l1 _ _ hf⟩
theorem wpOps_ok {P : Program} {E : En} {ops : Array Oper} {gs : Nat → Nat} {hs : List (Nat × Hn)} {st' : St} : ∀ (R : List (Nat × Pt)) (st : St) (a : Act) (w : World), (∀ x ∈ R, ∀ q ∈ x.2.obs, q) → (∀ t v, E.fx t v → ∀ o, o ∈ ops.toList → o.dst ≠ some t) → Val (mkPt P ops gs hs) R st st' → SRel E st a w →
    wpOps P ops (fun e a w => e = .normal ∧ SRel E st' a w) (R.map (·.1)) a w
  | [], st, a, w, _, _, hv, hr => ⟨rfl, by rw [show st' = st from hv]; exact hr⟩
  | (i, p) :: R, st, a, w, hob, hfx, hv, hr => by
    obtain ⟨hm, hv'⟩ := hv
    obtain ⟨hd, c, rfl, hhp, hi, hf⟩ := hr
    rw [List.map_cons, wpOps_cons]
    refine mkPt_ok hi hhp hf hm (hob (i, p) (by simp)) fun a' c' h1 h2 h3 h4 => ?_
    exact wpOps_ok R _ a' c'.w (fun x hx => hob x (by simp [hx])) hfx hv' ⟨⟨by rw [h1.1]; exact hd.1, fun t v ht => (h1.2 t (fun o ho => hfx t v ht o (by rw [Array.mem_toList_iff]; exact Array.mem_of_getElem? ho))).trans (hd.2 t v ht)⟩, c', rfl, h3, h2, h4⟩
theorem regF_ok {P : Program} (hmix : P.follows .mixedOrders = true) {E : En} {id : Nat} {ops : Array Oper} {draw : Bool} {hs : List (Nat × Hn)} {st st' : St} {obs : List Prop} (h : regF P ops draw hs st = some (st', obs)) (hob : ∀ q ∈ obs, q) (hfx : ∀ t v, E.fx t v → ∀ o, o ∈ ops.toList → o.dst ≠ some t) {a : Act} {w : World} (hr : SRel E st a w) :
    (Code.region id ops draw).wp P (fun e a w => e = .normal ∧ SRel E st' a w) a w := by
  unfold regF at h
  split at h
  case h_1 => cases h
  rename_i ps st1 hrun
  split at h
  case isFalse => cases h
  rename_i hcond
  simp only [Option.some.injEq, Prod.mk.injEq] at h
  obtain ⟨rfl, rfl⟩ := h
  obtain ⟨hv, hmap⟩ := runR_val _ _ _ _ hrun
  have hob' : ∀ x ∈ ps, ∀ q ∈ x.2.obs, q := fun x hx q hq => hob q (List.mem_flatMap.2 ⟨x, hx, hq⟩)
  cases draw with
  | false =>
    refine wp_region ?_
    have := wpOps_ok ps _ a w hob' hfx hv (hr.alike (fun id => look_pad _ _ id) rfl rfl rfl rfl (by first | exact Nat.le_refl _ | exact Nat.le_succ _))
    rw [hmap] at this
    exact this
  | true =>
    simp only [Bool.not_true, Bool.false_or, Bool.and_eq_true] at hcond
    refine wp_region_any hmix ?_
    refine any_ok ops.size _ ps _ a _ (by simp) (by have := congrArg List.length hmap; simp at this; omega) (fun i o ho => by have := fwd_spec ops.toList 0 hcond.1 i o (by simpa using ho); simpa using this) (fun i => ?_) ?_ hcond.2 (fun i hi => ?_) hob' hfx hv (hr.alike (fun id => look_pad _ _ id) rfl rfl rfl rfl (by first | exact Nat.le_refl _ | exact Nat.le_succ _))
    · have hmem : (∃ p, (i, p) ∈ ps) ↔ i < ops.size := by
        rw [← List.mem_range, ← hmap, List.mem_map]
        exact ⟨fun ⟨p, hp⟩ => ⟨(i, p), hp, rfl⟩, fun ⟨⟨j, p⟩, hp, e⟩ => ⟨p, by simp only at e; rw [← e]; exact hp⟩⟩
      rw [hmem]
      rcases Nat.lt_or_ge i ops.size with h | h
      · simp [h]
      · simp [Nat.not_lt.2 h]
    · rw [hmap]; exact List.nodup_range
    · exfalso
      rw [Array.getD_eq_getD_getElem?, Array.getElem?_replicate] at hi
      split at hi <;> simp at hi
def cdst (t : Tmp) : Code → Bool
  | .region _ ops _ => ops.toList.all fun o => o.dst != some t
  | .seq x y => cdst t x && cdst t y
  | .cond _ x y => cdst t x && cdst t y
  | .block _ c => cdst t c
  | .loop c => cdst t c
  | _ => true
def idst (t : Tmp) : Item → Bool
  | .code c => cdst t c
  | .inLoop c => cdst t c
  | _ => true
def tdst (t : Tmp) (l : List Item) : Bool := l.all (idst t)
theorem exitTo_dst {t : Tmp} {id : Nat} : ∀ (k k' : List Item), exitTo id k = some k' → tdst t k = true → tdst t k' = true
  | [], k', h, _ => by simp [exitTo] at h
  | x :: k, k', h, hd => by
    simp only [tdst, List.all_cons, Bool.and_eq_true] at hd
    cases x with
    | inBlock id' =>
      simp only [exitTo] at h
      split at h
      · simp only [Option.some.injEq] at h; subst h; exact hd.2
      · exact exitTo_dst k k' h hd.2
    | _ => exact exitTo_dst k k' (by simpa only [exitTo] using h) hd.2
def stepF (P : Program) (hs : List (Nat × Hn)) (todo : List Item) (st : St) : Option (List Item × St × List Prop) :=
  match todo with
  | .inBlock _ :: k => some (k, st, [])
  | .inLoop c :: k => some (.code c :: .inLoop c :: k, st, [])
  | .code c :: k => match c with
    | .skip => some (k, st, [])
    | .label _ => some (k, st, [])
    | .seq x y => some (.code x :: .code y :: k, st, [])
    | .cond c x y => match valG (fun t => st.fr.getD t .u) c with
      | .p (.bool true) => some (.code x :: k, st, [])
      | .p (.bool false) => some (.code y :: k, st, [])
      | _ => none
    | .block id c => some (.code c :: .inBlock id :: k, st, [])
    | .loop c => some (.code c :: .inLoop c :: k, st, [])
    | .exit id => match exitTo id k with
      | some k' => some (k', st, [])
      | none => none
    | .region _ ops draw => match regF P ops draw hs st with
      | some (st', obs) => some (k, st', obs)
      | none => none
    | _ => none
  | _ => none
theorem stepF_ok {P : Program} (hmix : P.follows .mixedOrders = true) {E : En} {hs : List (Nat × Hn)} {todo todo' : List Item} {st st' : St} {obs : List Prop} (h : stepF P hs todo st = some (todo', st', obs)) (hob : ∀ q ∈ obs, q) (hfx : ∀ t v, E.fx t v → tdst t todo = true) {a : Act} {w : World} (hr : SRel E st a w) (b : Frame) (cs : List Frame) :
    ∃ a' w', SRel E st' a' w' ∧ Steps P (lone (b.at a todo) cs w) (lone (b.at a' todo') cs w') := by
  unfold stepF at h
  split at h
  · simp only [Option.some.injEq, Prod.mk.injEq] at h
    obtain ⟨rfl, rfl, _⟩ := h
    exact ⟨a, w, hr, .one step_inBlock⟩
  · simp only [Option.some.injEq, Prod.mk.injEq] at h
    obtain ⟨rfl, rfl, _⟩ := h
    exact ⟨a, w, hr, .one step_inLoop⟩
  · rename_i c k
    split at h
    · simp only [Option.some.injEq, Prod.mk.injEq] at h
      obtain ⟨rfl, rfl, _⟩ := h
      exact ⟨a, w, hr, .one step_skip⟩
    · simp only [Option.some.injEq, Prod.mk.injEq] at h
      obtain ⟨rfl, rfl, _⟩ := h
      exact ⟨a, w, hr, .one step_label⟩
    · simp only [Option.some.injEq, Prod.mk.injEq] at h
      obtain ⟨rfl, rfl, _⟩ := h
      exact ⟨a, w, hr, .one step_seq⟩
    · rename_i cnd x y
      have hv : ∀ b, valG (fun t => st.fr.getD t .u) cnd = .p (.bool b) → a.eval cnd = .bool b := by
        intro b hb
        obtain ⟨_, c, rfl, _, hi, hf⟩ := hr
        have := relV_valG (get := fun t => st.fr.getD t .u) hf (fun t => .inr rfl) cnd
        rw [hb] at this
        simpa [RelV, Rep] using this
      split at h
      · rename_i hc
        simp only [Option.some.injEq, Prod.mk.injEq] at h
        obtain ⟨rfl, rfl, _⟩ := h
        exact ⟨a, w, hr, .one (step_cond (t := true) (hv _ hc))⟩
      · rename_i hc
        simp only [Option.some.injEq, Prod.mk.injEq] at h
        obtain ⟨rfl, rfl, _⟩ := h
        exact ⟨a, w, hr, .one (step_cond (t := false) (hv _ hc))⟩
      · cases h
    · simp only [Option.some.injEq, Prod.mk.injEq] at h
      obtain ⟨rfl, rfl, _⟩ := h
      exact ⟨a, w, hr, .one step_block⟩
    · simp only [Option.some.injEq, Prod.mk.injEq] at h
      obtain ⟨rfl, rfl, _⟩ := h
      exact ⟨a, w, hr, .one step_loop⟩
    · split at h
      · rename_i k' hk
        simp only [Option.some.injEq, Prod.mk.injEq] at h
        obtain ⟨rfl, rfl, _⟩ := h
        exact ⟨a, w, hr, .one (step_exit hk)⟩
      · cases h
    · rename_i id ops draw
      split at h
      · rename_i st1 obs1 hreg
        simp only [Option.some.injEq, Prod.mk.injEq] at h
        obtain ⟨rfl, rfl, rfl⟩ := h
        obtain ⟨e, a', w', ⟨rfl, hq⟩, harr⟩ := regF_ok hmix (id := id) hreg hob (fun t v ht o ho => by
          have := hfx t v ht
          simp only [tdst, List.all_cons, idst, cdst, Bool.and_eq_true] at this
          have h2 := List.all_eq_true.1 this.1 o ho
          simpa using h2) hr b k cs
        exact ⟨a', w', hq, harr⟩
      · cases h
    · cases h
  · cases h
theorem stepF_dst {P : Program} {t : Tmp} {hs : List (Nat × Hn)} {todo todo' : List Item} {st st' : St} {obs : List Prop} (h : stepF P hs todo st = some (todo', st', obs)) (hd : tdst t todo = true) : tdst t todo' = true := by
  unfold stepF at h
  split at h
  · simp only [Option.some.injEq, Prod.mk.injEq] at h
    obtain ⟨rfl, rfl, _⟩ := h
    simp only [tdst, List.all_cons, Bool.and_eq_true] at hd; exact hd.2
  · simp only [Option.some.injEq, Prod.mk.injEq] at h
    obtain ⟨rfl, rfl, _⟩ := h
    simp only [tdst, List.all_cons, Bool.and_eq_true, idst] at hd ⊢; exact ⟨hd.1, hd.1, hd.2⟩
  · rename_i c k
    split at h <;> simp only [tdst, List.all_cons, Bool.and_eq_true, idst, cdst] at hd
    · simp only [Option.some.injEq, Prod.mk.injEq] at h
      obtain ⟨rfl, rfl, _⟩ := h
      exact hd.2
    · simp only [Option.some.injEq, Prod.mk.injEq] at h
      obtain ⟨rfl, rfl, _⟩ := h
      exact hd.2
    · simp only [Option.some.injEq, Prod.mk.injEq] at h
      obtain ⟨rfl, rfl, _⟩ := h
      simp only [tdst, List.all_cons, Bool.and_eq_true, idst]; exact ⟨hd.1.1, hd.1.2, hd.2⟩
    · split at h
      · simp only [Option.some.injEq, Prod.mk.injEq] at h
        obtain ⟨rfl, rfl, _⟩ := h
        simp only [tdst, List.all_cons, Bool.and_eq_true, idst]; exact ⟨hd.1.1, hd.2⟩
      · simp only [Option.some.injEq, Prod.mk.injEq] at h
        obtain ⟨rfl, rfl, _⟩ := h
        simp only [tdst, List.all_cons, Bool.and_eq_true, idst]; exact ⟨hd.1.2, hd.2⟩
      · cases h
    · simp only [Option.some.injEq, Prod.mk.injEq] at h
      obtain ⟨rfl, rfl, _⟩ := h
      simp only [tdst, List.all_cons, Bool.and_eq_true, idst]; exact ⟨hd.1, trivial, hd.2⟩
    · simp only [Option.some.injEq, Prod.mk.injEq] at h
      obtain ⟨rfl, rfl, _⟩ := h
      simp only [tdst, List.all_cons, Bool.and_eq_true, idst]; exact ⟨hd.1, hd.1, hd.2⟩
    · split at h
      · rename_i k' hk
        simp only [Option.some.injEq, Prod.mk.injEq] at h
        obtain ⟨rfl, rfl, _⟩ := h
        exact exitTo_dst _ _ hk hd.2
      · cases h
    · split at h
      · simp only [Option.some.injEq, Prod.mk.injEq] at h
        obtain ⟨rfl, rfl, _⟩ := h
        exact hd.2
      · cases h
    · cases h
  · cases h
def isEnd : List Item → Bool
  | [] => true
  | .code .ret :: _ => true
  | _ => false
def res1 (P : Program) (st : St) : ResultVar → Option FV
  | .tmp t => some (st.fr.getD t .u)
  | .cell a t => match loadF P t (st.fr.getD a .u) (look st.hp) with
    | some rs => some rs.r
    | none => none
def resL (P : Program) (st : St) : List ResultVar → Option (List FV)
  | [] => some []
  | r :: rs => match res1 P st r with
    | some x => match resL P st rs with
      | some xs => some (x :: xs)
      | none => none
    | none => none
def resF (P : Program) (fn : Func) (st : St) : Option FV :=
  match resL P st fn.results.toList with
  | some [x] => some x
  | some xs => some (.tup xs)
  | none => none
theorem resL_ok {P : Program} {E : En} {c : Cx} {st : St} {a : Act} (hi : Inv E c) (hhp : c.hp = st.hp) (hf : RelVs c st.fr a.tmps.toList) (g : ResultVar → Sem Value) (hg1 : ∀ t, g (.tmp t) = pure (a.tmps.getD t undef)) (hg2 : ∀ x t, g (.cell x t) = (do loadVar t (← asAddr (a.tmps.getD x undef)))) :
    ∀ (l : List ResultVar) (xs : List FV), resL P st l = some xs → ∃ vs, (l.mapM g).run P c.w = .ok vs c.w ∧ RelVs c xs vs
  | [], xs, h => by
    simp only [resL, Option.some.injEq] at h
    subst h
    exact ⟨[], rfl, by simp [RelVs]⟩
  | r :: rs, xs, h => by
    simp only [resL] at h
    split at h
    case h_2 => cases h
    rename_i x hx
    split at h
    case h_2 => cases h
    rename_i xs' hxs
    simp only [Option.some.injEq] at h
    subst h
    obtain ⟨vs, h1, h2⟩ := resL_ok hi hhp hf g hg1 hg2 rs xs' hxs
    have one : ∃ v, (g r).run P c.w = .ok v c.w ∧ RelV c x v := by
      cases r with
      | tmp t =>
        simp only [res1, Option.some.injEq] at hx
        subst hx
        exact ⟨_, by rw [hg1]; rfl, relV_val hf (.tmp t)⟩
      | cell y t =>
        simp only [res1] at hx
        split at hx
        case h_2 => cases hx
        rename_i rs' hl
        simp only [Option.some.injEq] at hx
        subst hx
        obtain ⟨ad, u, h3, h4, h5, _⟩ := load_ok (P := P) (lk := look st.hp) hi (fun id => .inr (by rw [hhp])) hl (relV_val hf (.tmp y))
        refine ⟨u, ?_, h5⟩
        have h3' : a.tmps.getD y undef = .pointer (some ad) := h3
        rw [hg2, Sem.run_bind, h3']
        simp [asAddr, h4]
    obtain ⟨v, h3, h4⟩ := one
    refine ⟨v :: vs, ?_, by simp only [RelVs]; exact ⟨v, vs, rfl, h4, h2⟩⟩
    simp only [List.mapM_cons, Sem.run_bind, h3, Result.andThen_ok, h1, Sem.run_pure]
theorem resF_ok {P : Program} {E : En} {c : Cx} {fn : Func} {st : St} {a : Act} {r : FV} (hi : Inv E c) (hhp : c.hp = st.hp) (h : resF P fn st = some r) (hf : RelVs c st.fr a.tmps.toList) : ∃ v, (results fn a.tmps).run P c.w = .ok v c.w ∧ RelV c r v := by
  unfold resF at h
  have key : ∀ xs, resL P st fn.results.toList = some xs → ∃ vs : List Value, (results fn a.tmps).run P c.w = .ok (if h : vs.toArray.size = 1 then vs.toArray[0] else .tuple vs.toArray) c.w ∧ RelVs c xs vs := by
    intro xs hxs
    obtain ⟨g, hg1, hg2, hg⟩ : ∃ g : ResultVar → Sem Value, (∀ t, g (.tmp t) = pure (a.tmps.getD t undef)) ∧ (∀ x t, g (.cell x t) = (do loadVar t (← asAddr (a.tmps.getD x undef)))) ∧ results fn a.tmps = (do
        let vs ← fn.results.mapM g
        pure (if h : vs.size = 1 then vs[0] else .tuple vs)) := by
      refine ⟨_, ?_, ?_, rfl⟩
      · intro t; rfl
      · intro x t; rfl
    obtain ⟨vs, h1, h2⟩ := resL_ok (P := P) (a := a) hi hhp hf g hg1 hg2 fn.results.toList xs hxs
    refine ⟨vs, ?_, h2⟩
    rw [hg, Sem.run_bind, Array.mapM_eq_mapM_toList, Sem.run_map, h1]
    rfl
  split at h
  · rename_i x hx
    simp only [Option.some.injEq] at h
    subst h
    obtain ⟨vs, h1, h2⟩ := key _ hx
    simp only [RelVs] at h2
    obtain ⟨v, vs', rfl, h3, rfl⟩ := h2
    exact ⟨v, h1, h3⟩
  · rename_i xs hne hx
    simp only [Option.some.injEq] at h
    subst h
    obtain ⟨vs, h1, h2⟩ := key _ hx
    refine ⟨_, h1, ?_⟩
    rw [dif_neg]
    · simp only [RelV]
      exact ⟨_, rfl, by simpa using h2⟩
    · intro hs
      have hl := h2.length
      have hl1 : vs.length = 1 := by simpa using hs
      obtain ⟨x, hx1⟩ := List.length_eq_one_iff.1 (hl.symm.trans hl1)
      exact hne x hx1
  · cases h
def StLe (st st' : St) : Prop := ∀ E a w, SRel E st a w → SRel E st' a w
inductive Run (P : Program) (fn : Func) : List Item → St → FV → List Ob → Prop
  | done {todo : List Item} {st : St} {r : FV} (h : isEnd todo = true) (hr : resF P fn st = some r) : Run P fn todo st r st.hp
  | step {todo todo' : List Item} {st st' : St} {r : FV} {H : List Ob} {obs : List Prop} (hs : List (Nat × Hn)) (h : stepF P hs todo st = some (todo', st', obs)) (hob : ∀ q ∈ obs, q) (k : Run P fn todo' st' r H) : Run P fn todo st r H
  | conv {todo : List Item} {st st' : St} {r : FV} {H : List Ob} (h : StLe st st') (k : Run P fn todo st' r H) : Run P fn todo st r H
theorem Run.sound {P : Program} (hmix : P.follows .mixedOrders = true) {f : FuncId} {fn : Func} (hfn : P.funcs[f]? = some fn) {todo : List Item} {st : St} {r : FV} {H : List Ob} (h : Run P fn todo st r H) :
    ∀ (E : En) (a : Act) (w : World) (b : Frame) (cs : List Frame), b.fn = f → b.kind = .normal → (∀ t v, E.fx t v → tdst t todo = true) → SRel E st a w → ∃ v w' fr, Steps P (lone (b.at a todo) cs w) (lone fr cs w') ∧ fr.fn = f ∧ fr.leaving P w' (.returned v) ∧ ∃ F' κ', Inv E ⟨F', w', κ', H⟩ ∧ RelV ⟨F', w', κ', H⟩ r v := by
  induction h with
  | done h hr =>
    intro E a w b cs hb hk hfx hrel
    rename_i todo st r
    obtain ⟨hd, c, rfl, hhp, hi, hf⟩ := hrel
    obtain ⟨v, h1, h2⟩ := resF_ok (P := P) hi hhp hr hf
    have hfin : ∃ todo', Steps P (lone (b.at a todo) cs c.w) (lone { b.at a todo' with mode := .returning } cs c.w) := by
      unfold isEnd at h
      split at h
      · exact ⟨_, .one step_end⟩
      · exact ⟨_, .one step_ret⟩
      · cases h
    obtain ⟨todo', hs⟩ := hfin
    refine ⟨v, c.w, _, hs, hb, ⟨rfl, hd.1, hk, fn, ?_, h1⟩, c.F, c.κ, ?_, ?_⟩
    · show P.funcs[b.fn]? = some fn
      rw [hb]; exact hfn
    · rw [← hhp]; exact hi
    · rw [← hhp]; exact h2
  | step hs h hob k ih =>
    intro E a w b cs hb hk hfx hrel
    obtain ⟨a', w', hrel', hst⟩ := stepF_ok hmix h hob hfx hrel b cs
    obtain ⟨v, w2, fr, h1, h2⟩ := ih E a' w' b cs hb hk (fun t v ht => stepF_dst h (hfx t v ht)) hrel'
    exact ⟨v, w2, fr, hst.trans h1, h2⟩
  | conv h k ih =>
    intro E a w b cs hb hk hfx hrel
    exact ih E a w b cs hb hk hfx (h E a w hrel)
theorem spec_of_run {P : Program} (hmix : P.follows .mixedOrders = true) {f : FuncId} {fn : Func} (hfn : P.funcs[f]? = some fn) {body : Code} (hb : fn.body = some body) {args : List FV} {r : FV} {H : List Ob}
    (h : Run P fn [.code body] ⟨args ++ List.replicate (fn.ntmps - args.length) .u, []⟩ r H) : Spec P f args r H := by
  intro w F κ vs hF hv cs
  have hlen := hv.length
  have hlen' : vs.size = args.length := by simpa using hlen
  let b : Frame := { (default : Frame) with fn := f, kind := .normal }
  have henter : Frame.enter P f vs .normal = b.at { tmps := vs ++ Array.replicate (fn.ntmps - vs.size) undef, defers := [] } [.code body] := by
    simp [Frame.enter, Frame.at, hfn, hb, b]
  have hinv : Inv ⟨w, F, fun _ => False, fun _ _ => False⟩ ⟨F, w, κ, []⟩ := ⟨Chg.refl _ _, fun _ h => h, fun b h => .inl h, hF, fun id => by simp [look, RelO], fun i j b h => by simp [look, Ob.mut] at h, fun i b h => by simp [look, Ob.mut] at h⟩
  obtain ⟨v, w', fr, h1, h2, h3, F', κ', h4, h5⟩ := h.sound hmix hfn ⟨w, F, fun _ => False, fun _ _ => False⟩ { tmps := vs ++ Array.replicate (fn.ntmps - vs.size) undef, defers := [] } w b cs rfl rfl (fun _ _ h => h.elim)
    ⟨⟨rfl, fun _ _ h => h.elim⟩, ⟨F, w, κ, []⟩, rfl, rfl, hinv, by
      simp only [Array.toList_append, Array.toList_replicate, hlen']
      refine hv.append ?_
      refine RelVs.of_get (by simp) fun i u _ hi => by simp [RelV]⟩
  refine ⟨.returned v, w', fr, ⟨v, F', κ', rfl, h4, h5⟩, ?_, h2, h3⟩
  rw [henter]
  exact h1
end Go.Proofs.YtjhnpaenhdbhpacV
set_option linter.unusedVariables false
set_option linter.unusedSimpArgs false
set_option linter.constructorNameAsVariable false
namespace Go.Proofs.YtjhnpaenhdbhpacV
open Go Go.RowKit
mutual
def FV.reo (ρ : Nat → Option (Nat × Option Nat)) : FV → FV
  | .u => .u
  | .und => .und
  | .nil => .nil
  | .p a => .p a
  | .agg cs => .agg (reos ρ cs)
  | .sref id e sz n => match ρ id with
    | some (j, some m) => .sref j e sz m
    | some (j, none) => .sref j e sz n
    | none => .u
  | .ssub id e sz lo n => match ρ id with
    | some (j, _) => .ssub j e sz lo n
    | none => .u
  | .ptr id i j => match ρ id with
    | some (k, _) => .ptr k i j
    | none => .u
  | .vptr m f => .vptr m f
  | .fn f cs => .fn f (reos ρ cs)
  | .tup us => .tup (reos ρ us)
  | .mref id m => match ρ id with
    | some (j, _) => .mref j (match ρ m with | some (k, _) => k | none => 0)
    | none => .u
def reos (ρ : Nat → Option (Nat × Option Nat)) : List FV → List FV
  | [] => []
  | x :: xs => x.reo ρ :: reos ρ xs
end
def obN : Ob → Option Nat
  | .arr _ _ _ n _ => some n
  | _ => none
def Rg.reo (ρ : Nat → Option (Nat × Option Nat)) : Rg → Rg
  | .map es => .map es
  | .iter m n seen cur => match ρ m with
    | some (j, _) => .iter j n seen cur
    | none => .gone
  | .gone => .gone
def Ob.reo (ρ : Nat → Option (Nat × Option Nat)) : Ob → Ob
  | .box cs => .box (reos ρ cs)
  | .reg g => .reg (g.reo ρ)
  | o => o
structure Ro (ρ : Nat → Option (Nat × Option Nat)) (c c' : Cx) : Prop where
  F : c'.F = c.F
  w : c'.w = c.w
  o : ∀ id j m, ρ id = some (j, m) → look c'.hp j = (look c.hp id).reo ρ ∧ c'.κ j = c.κ id ∧ m = obN (look c.hp id)
mutual
theorem RelV.reo {ρ : Nat → Option (Nat × Option Nat)} {c c' : Cx} (h : Ro ρ c c') : ∀ (x : FV) (v : Value), RelV c x v → RelV c' (x.reo ρ) v
  | .u, v, _ => by simp [FV.reo, RelV]
  | .und, v, r => by simpa [FV.reo, RelV] using r
  | .nil, v, r => by simpa [FV.reo, RelV] using r
  | .p a, v, r => by
    simp only [FV.reo, RelV] at r ⊢
    rw [h.F, h.w]
    exact r
  | .agg cs, v, r => by
    simp only [FV.reo, RelV] at r ⊢
    obtain ⟨vs, hv, hr⟩ := r
    exact ⟨vs, hv, RelVs.reo h cs _ hr⟩
  | .sref id e sz n, v, r => by
    simp only [FV.reo]
    cases hρ : ρ id with
    | none => simp [RelV]
    | some jm =>
      obtain ⟨j, m⟩ := jm
      obtain ⟨h1, h2, h3⟩ := h.o id j m hρ
      simp only [RelV] at r
      have hr := r.2
      have hcase : RefS (look c'.hp j) (c'.κ j) e sz n v := by
        rw [h1, h2]
        cases ho : look c.hp id <;> rw [ho] at hr <;> first | exact hr | trivial
      cases m with
      | none => simp only [RelV]; exact ⟨r.1, hcase⟩
      | some m =>
        have hn : m = n := by
          cases ho : look c.hp id with
          | arr own e1 sz1 n1 f =>
            rw [ho] at hr h3
            simp only [obN, Option.some.injEq] at h3
            exact h3.trans hr.2.2.1
          | _ => rw [ho] at h3; simp [obN] at h3
        subst hn
        simp only [RelV]
        exact ⟨r.1, hcase⟩
  | .ssub id e sz lo n, v, r => by
    simp only [FV.reo]
    cases hρ : ρ id with
    | none => simp [RelV]
    | some km =>
      obtain ⟨k, m⟩ := km
      simp only [RelV] at r ⊢
      refine ⟨r.1, ?_⟩
      have hr := r.2
      obtain ⟨h1, h2, _⟩ := h.o id k m hρ
      rw [h1, h2]
      cases ho : look c.hp id <;> rw [ho] at hr <;> first | exact hr | trivial
  | .ptr id i j, v, r => by
    simp only [FV.reo]
    cases hρ : ρ id with
    | none => simp [RelV]
    | some km =>
      obtain ⟨k, m⟩ := km
      simp only [RelV] at r ⊢
      obtain ⟨a, hv, hr⟩ := r
      refine ⟨a, hv, ?_⟩
      obtain ⟨h1, h2, _⟩ := h.o id k m hρ
      rw [h1, h2]
      cases ho : look c.hp id <;> rw [ho] at hr <;> first | exact hr | trivial
  | .vptr m f, v, r => by
    simp only [FV.reo, RelV] at r ⊢
    rw [h.F, h.w]
    exact r
  | .fn f caps, v, r => by
    simp only [FV.reo, RelV] at r ⊢
    obtain ⟨vs, hv, hr⟩ := r
    exact ⟨vs, hv, RelVs.reo h caps _ hr⟩
  | .tup us, v, r => by
    simp only [FV.reo, RelV] at r ⊢
    obtain ⟨vs, hv, hr⟩ := r
    exact ⟨vs, hv, RelVs.reo h us _ hr⟩
  | .mref id mm, v, r => by
    simp only [FV.reo]
    cases hρ : ρ id with
    | none => simp [RelV]
    | some km =>
      obtain ⟨k, m⟩ := km
      simp only [RelV] at r ⊢
      refine ⟨r.1, ?_⟩
      have hr := r.2
      obtain ⟨h1, h2, _⟩ := h.o id k m hρ
      rw [h1, h2]
      cases ho : look c.hp id <;> rw [ho] at hr <;> first | exact hr | trivial
theorem RelVs.reo {ρ : Nat → Option (Nat × Option Nat)} {c c' : Cx} (h : Ro ρ c c') : ∀ (xs : List FV) (vs : List Value), RelVs c xs vs → RelVs c' (reos ρ xs) vs
  | [], vs, r => by simpa [reos, RelVs] using r
  | x :: xs, vs, r => by
    simp only [reos, RelVs] at r ⊢
    obtain ⟨v, vs', hv, h1, h2⟩ := r
    exact ⟨v, vs', hv, RelV.reo h x v h1, RelVs.reo h xs vs' h2⟩
end
theorem reos_pv (ρ : Nat → Option (Nat × Option Nat)) : ∀ l : List PV, reos ρ (l.map PV.fv) = l.map PV.fv
  | [] => rfl
  | x :: l => by
    have : x.fv.reo ρ = x.fv := by
      cases x with
      | one a => simp [PV.fv, FV.reo]
      | many l =>
        have : ∀ l : List AV, reos ρ (l.map .p) = l.map .p := by
          intro l
          induction l with
          | nil => rfl
          | cons a l ih => simp [reos, FV.reo, ih]
        simp [PV.fv, FV.reo, this]
    simp [reos, this, reos_pv ρ l]
theorem RelG.reo {ρ : Nat → Option (Nat × Option Nat)} {c c' : Cx} (h : Ro ρ c c') {v : Value} {b : Nat} {g : Rg} (r : RelG c v b g) : RelG c' v b (g.reo ρ) := by
  cases g with
  | map es =>
    obtain ⟨h1, ents, h2, h3, h4, h5⟩ := r
    refine ⟨h1, ents, by rw [h.w]; exact h2, ?_, ?_, h5⟩
    · have e : es.map (fun x => x.1.fv) = (es.map (·.1)).map PV.fv := by simp [Function.comp_def]
      rw [e] at h3 ⊢
      have := RelVs.reo h _ _ h3
      rwa [reos_pv] at this
    · have e : es.map (fun x => x.2.fv) = (es.map (·.2)).map PV.fv := by simp [Function.comp_def]
      rw [e] at h4 ⊢
      have := RelVs.reo h _ _ h4
      rwa [reos_pv] at this
  | iter m n seen cur =>
    obtain ⟨h1, bm, h2, h3, h4⟩ := r
    simp only [Rg.reo]
    cases hρ : ρ m with
    | none => trivial
    | some km =>
      obtain ⟨k, q⟩ := km
      have := RelV.reo h _ _ h2
      simp only [FV.reo, hρ] at this
      exact ⟨h1, bm, by simpa [RelV] using this, by rw [h.w]; exact h3, h4⟩
  | gone => trivial
theorem RelO.reo {ρ : Nat → Option (Nat × Option Nat)} {c c' : Cx} (h : Ro ρ c c') {v : Value} {o : Ob} (r : RelO c v o) : RelO c' v (o.reo ρ) := by
  cases o with
  | free => trivial
  | dead => trivial
  | arr own e sz n f =>
    obtain ⟨h0, xs, h1, h2, h3, h4⟩ := r
    exact ⟨h0, xs, by rw [h.w]; exact h1, fun i hi j hj => by rw [h.w, h.F]; exact h2 i hi j hj, h3, fun b hb => by rw [h.F]; exact h4 b hb⟩
  | box cs =>
    obtain ⟨b, C, t, h1, h2, h3, h4, h5⟩ := r
    exact ⟨b, C, t, h1, by rw [h.w]; exact h2, by rw [h.F]; exact h3, h4, RelVs.reo h _ _ h5⟩
  | reg g =>
    obtain ⟨b, hb, hl, hf, hg⟩ := r
    exact ⟨b, hb, by rw [h.w]; exact hl, by rw [h.F]; exact hf, RelG.reo h hg⟩
theorem mut_reo (ρ : Nat → Option (Nat × Option Nat)) (o : Ob) : (o.reo ρ).mut = o.mut := by cases o <;> rfl
def idxOf (id : Nat) : List Nat → Nat → Option Nat
  | [], _ => none
  | x :: xs, k => if x = id then some k else idxOf id xs (k + 1)
theorem idxOf_spec {id : Nat} : ∀ (l : List Nat) (k j : Nat), idxOf id l k = some j → k ≤ j ∧ l[j - k]? = some id
  | [], k, j, h => by simp [idxOf] at h
  | x :: xs, k, j, h => by
    simp only [idxOf] at h
    split at h
    · rename_i e
      simp only [Option.some.injEq] at h
      subst h e
      simp
    · obtain ⟨h1, h2⟩ := idxOf_spec xs (k + 1) j h
      refine ⟨by omega, ?_⟩
      rw [show j - k = (j - (k + 1)) + 1 from by omega]
      simpa using h2
def nodupB : List Nat → Bool
  | [] => true
  | x :: xs => !xs.contains x && nodupB xs
theorem nodupB_spec : ∀ (l : List Nat), nodupB l = true → ∀ (i j x : Nat), l[i]? = some x → l[j]? = some x → i = j
  | [], _, i, j, x, h, _ => by simp at h
  | y :: l, h, i, j, x, h1, h2 => by
    simp only [nodupB, Bool.and_eq_true, Bool.not_eq_true', List.contains_eq_mem, decide_eq_false_iff_not] at h
    cases i with
    | zero =>
      cases j with
      | zero => rfl
      | succ j =>
        simp only [List.getElem?_cons_zero, Option.some.injEq] at h1
        subst h1
        exact absurd (List.mem_of_getElem? (by simpa using h2)) h.1
    | succ i =>
      cases j with
      | zero =>
        simp only [List.getElem?_cons_zero, Option.some.injEq] at h2
        subst h2
        exact absurd (List.mem_of_getElem? (by simpa using h1)) h.1
      | succ j => rw [nodupB_spec l h.2 i j x (by simpa using h1) (by simpa using h2)]
def addIds (acc : List Nat) : List Nat → List Nat
  | [] => acc
  | x :: xs => addIds (if acc.contains x then acc else acc ++ [x]) xs
def refsDeep : FV → List Nat
  | .fn _ cs => cs.flatMap refs1
  | .tup us => us.flatMap refs1
  | x => refsF x
def obRefs : Ob → List Nat
  | .box cs => cs.flatMap refsDeep
  | .reg (.iter m _ _ _) => [m]
  | _ => []
def keepFr (keep : List Tmp) : List FV → Nat → List FV
  | [], _ => []
  | x :: xs, t => (if keep.contains t then x else .u) :: keepFr keep xs (t + 1)
def orderOf (hp : List Ob) (fr : List FV) : List Nat :=
  let o1 := addIds [] (fr.flatMap refsDeep)
  let o2 := addIds o1 (o1.flatMap fun id => obRefs (look hp id))
  addIds o2 (o2.flatMap fun id => obRefs (look hp id))
def rhoOf (hp : List Ob) (order : List Nat) (id : Nat) : Option (Nat × Option Nat) :=
  match idxOf id order 0 with
  | some j => some (j, obN (look hp id))
  | none => none
def canon (keep : List Tmp) (st : St) : St :=
  let fr := keepFr keep st.fr 0
  let order := orderOf st.hp fr
  if nodupB order then
    ⟨reos (rhoOf st.hp order) fr, order.map fun id => (look st.hp id).reo (rhoOf st.hp order)⟩
  else st
theorem keepFr_ok {c : Cx} {keep : List Tmp} : ∀ (fr : List FV) (vs : List Value) (t : Nat), RelVs c fr vs → RelVs c (keepFr keep fr t) vs
  | [], vs, t, h => by simpa [keepFr] using h
  | x :: xs, vs, t, h => by
    simp only [keepFr, RelVs] at h ⊢
    obtain ⟨v, vs', hv, h1, h2⟩ := h
    refine ⟨v, vs', hv, ?_, keepFr_ok xs vs' (t + 1) h2⟩
    split
    · exact h1
    · simp [RelV]
theorem canon_ok (keep : List Tmp) (st : St) : StLe st (canon keep st) := by
  intro E a w hr
  unfold canon
  dsimp only
  split
  case isFalse => exact hr
  rename_i hnd
  obtain ⟨hd, c, rfl, hhp, hi, hf⟩ := hr
  obtain ⟨order, ho⟩ : ∃ order, orderOf st.hp (keepFr keep st.fr 0) = order := ⟨_, rfl⟩
  rw [ho] at hnd ⊢
  have hlook : ∀ j, look (order.map fun id => (look st.hp id).reo (rhoOf st.hp order)) j = match order[j]? with | some id => (look st.hp id).reo (rhoOf st.hp order) | none => .free := by
    intro j
    unfold look
    rw [List.getD_eq_getElem?_getD, List.getElem?_map]
    cases order[j]? <;> rfl
  have hro : Ro (rhoOf st.hp order) c ⟨c.F, c.w, fun j => c.κ (order.getD j 0), order.map fun id => (look st.hp id).reo (rhoOf st.hp order)⟩ := by
    refine ⟨rfl, rfl, fun id j m hj => ?_⟩
    obtain ⟨hj2, rfl⟩ : idxOf id order 0 = some j ∧ m = obN (look st.hp id) := by
      unfold rhoOf at hj
      split at hj
      · rename_i j' hj'
        simp only [Option.some.injEq, Prod.mk.injEq] at hj
        obtain ⟨rfl, rfl⟩ := hj
        exact ⟨hj', rfl⟩
      · cases hj
    obtain ⟨_, h1⟩ := idxOf_spec order 0 j hj2
    rw [Nat.sub_zero] at h1
    refine ⟨?_, ?_, by rw [hhp]⟩
    · show look (order.map _) j = _
      rw [hlook, h1, hhp]
    · show c.κ (order.getD j 0) = c.κ id
      rw [List.getD_eq_getElem?_getD, h1]; rfl
  have hm : ∀ j, (look (order.map fun id => (look st.hp id).reo (rhoOf st.hp order)) j).mut = true → ∃ id, order[j]? = some id ∧ (look c.hp id).mut = true ∧ c.κ (order.getD j 0) = c.κ id := by
    intro j hj
    rw [hlook] at hj
    cases hq : order[j]? with
    | none => rw [hq] at hj; simp [Ob.mut] at hj
    | some id =>
      rw [hq] at hj
      simp only [mut_reo] at hj
      exact ⟨id, rfl, by rw [hhp]; exact hj, by rw [List.getD_eq_getElem?_getD, hq]; rfl⟩
  refine ⟨hd, ⟨c.F, c.w, fun j => c.κ (order.getD j 0), order.map fun id => (look st.hp id).reo (rhoOf st.hp order)⟩, rfl, rfl, ⟨hi.chg, hi.f0, hi.f1, hi.lt, fun j => ?_, fun i j b h1 h2 h3 h4 => ?_, fun i b h1 h2 => ?_⟩, RelVs.reo hro _ _ (keepFr_ok _ _ 0 hf)⟩
  · show RelO _ (c.κ (order.getD j 0)) (look (order.map _) j)
    rw [hlook]
    cases hq : order[j]? with
    | none => trivial
    | some id =>
      have e : c.κ (order.getD j 0) = c.κ id := by rw [List.getD_eq_getElem?_getD, hq]; rfl
      rw [e]
      have := RelO.reo hro (hi.objs id)
      rw [hhp] at this
      exact this
  · obtain ⟨x, hx, hx1, hx2⟩ := hm i h1
    obtain ⟨y, hy, hy1, hy2⟩ := hm j h2
    have h3' : blk (c.κ (order.getD i 0)) = some b := h3
    have h4' : blk (c.κ (order.getD j 0)) = some b := h4
    rw [hx2] at h3'
    rw [hy2] at h4'
    have := hi.inj x y b hx1 hy1 h3' h4'
    subst this
    exact nodupB_spec order hnd i j x hx hy
  · obtain ⟨x, hx, hx1, hx2⟩ := hm i h1
    have h2' : blk (c.κ (order.getD i 0)) = some b := h2
    rw [hx2] at h2'
    exact hi.own x b hx1 h2'
inductive Ac where
  | n (k : Nat)
  | r (hs : List (Nat × Hn))
  | k (keep : List Tmp)
  | f (t : Tmp)
def freezeAt (t : Tmp) (st : St) : St :=
  match st.fr[t]? with
  | some (.sref id _ _ _) => match look st.hp id with
    | .arr _ e sz n f => ⟨st.fr.set t (.p (.sl sz n f)), st.hp.set id (.arr false e sz n f)⟩
    | _ => st
  | _ => st
theorem freezeAt_ok (t : Tmp) (st : St) : StLe st (freezeAt t st) := by
  intro E a w hr
  unfold freezeAt
  split
  case h_2 => exact hr
  rename_i id e0 sz0 n0 hq
  split
  case h_2 => exact hr
  rename_i own e sz n f ho
  obtain ⟨hd, c, rfl, hhp, hi, hf⟩ := hr
  obtain ⟨F', h1, h2, h3⟩ := freeze_ok hi (id := id) (by rw [hhp]; exact ho)
  have hlt : t < st.fr.length := (List.getElem?_eq_some_iff.1 hq).1
  obtain ⟨v, hv1, hv2⟩ := hf.get t hlt
  have hv3 : st.fr[t] = .sref id e0 sz0 n0 := (List.getElem?_eq_some_iff.1 hq).2
  rw [hv3] at hv2
  simp only [RelV] at hv2
  have hk : v = c.κ id := by
    have := hv2.2
    rw [hhp, ho] at this
    exact this.2.2.2
  refine ⟨hd, ⟨F', c.w, c.κ, c.hp.set id (.arr false e sz n f)⟩, rfl, by rw [← hhp], h1, ?_⟩
  have hset := RelVs.set (c := ⟨F', c.w, c.κ, c.hp.set id (.arr false e sz n f)⟩) (x := .p (.sl sz n f)) (v := v) (by simp only [RelV]; rw [hk]; exact h3) (RelVs.keep h2 _ _ hf) t
  have hself : a.tmps.toList.set t v = a.tmps.toList := by
    apply List.ext_getElem?
    intro j
    rw [List.getElem?_set]
    split
    · rename_i e; subst e; rw [if_pos (by have := hf.length; rw [this]; exact hlt), hv1]
    · rfl
  rw [hself] at hset
  exact hset
def stepsF (P : Program) : Nat → List Item → St → List Prop → Option (List Item × St × List Prop)
  | 0, todo, st, obs => some (todo, st, obs)
  | n + 1, todo, st, obs => match stepF P [] todo st with
    | some (todo', st', o) => stepsF P n todo' st' (obs ++ o)
    | none => none
def exec (P : Program) : List Ac → List Item → St → List Prop → Option (List Item × St × List Prop)
  | [], todo, st, obs => some (todo, st, obs)
  | .n k :: ays, todo, st, obs => match stepsF P k todo st obs with
    | some (todo', st', obs') => exec P ays todo' st' obs'
    | none => none
  | .r hs :: ays, todo, st, obs => match stepF P hs todo st with
    | some (todo', st', o) => exec P ays todo' st' (obs ++ o)
    | none => none
  | .k keep :: ays, todo, st, obs => exec P ays todo (canon keep st) obs
  | .f t :: ays, todo, st, obs => exec P ays todo (freezeAt t st) obs
theorem stepsF_run {P : Program} {fn : Func} {r : FV} {H : List Ob} : ∀ (n : Nat) (todo todo' : List Item) (st st' : St) (obs obs' : List Prop), stepsF P n todo st obs = some (todo', st', obs') → (∀ q ∈ obs', q) → Run P fn todo' st' r H → Run P fn todo st r H ∧ ∀ q ∈ obs, q
  | 0, todo, todo', st, st', obs, obs', h, hob, k => by
    simp only [stepsF, Option.some.injEq, Prod.mk.injEq] at h
    obtain ⟨rfl, rfl, rfl⟩ := h
    exact ⟨k, hob⟩
  | n + 1, todo, todo', st, st', obs, obs', h, hob, k => by
    simp only [stepsF] at h
    split at h
    case h_2 => cases h
    rename_i t1 s1 o hs
    obtain ⟨h1, h2⟩ := stepsF_run n t1 todo' s1 st' (obs ++ o) obs' h hob k
    exact ⟨.step [] hs (fun q hq => h2 q (by simp [hq])) h1, fun q hq => h2 q (by simp [hq])⟩
theorem exec_run {P : Program} {fn : Func} {r : FV} {H : List Ob} : ∀ (ays : List Ac) (todo todo' : List Item) (st st' : St) (obs obs' : List Prop), exec P ays todo st obs = some (todo', st', obs') → (∀ q ∈ obs', q) → Run P fn todo' st' r H → Run P fn todo st r H ∧ ∀ q ∈ obs, q
  | [], todo, todo', st, st', obs, obs', h, hob, k => by
    simp only [exec, Option.some.injEq, Prod.mk.injEq] at h
    obtain ⟨rfl, rfl, rfl⟩ := h
    exact ⟨k, hob⟩
  | .n m :: ays, todo, todo', st, st', obs, obs', h, hob, k => by
    simp only [exec] at h
    split at h
    case h_2 => cases h
    rename_i t1 s1 o hs
    obtain ⟨h1, h2⟩ := exec_run ays t1 todo' s1 st' o obs' h hob k
    exact stepsF_run m todo t1 st s1 obs o hs h2 h1
  | .r hs :: ays, todo, todo', st, st', obs, obs', h, hob, k => by
    simp only [exec] at h
    split at h
    case h_2 => cases h
    rename_i t1 s1 o hst
    obtain ⟨h1, h2⟩ := exec_run ays t1 todo' s1 st' (obs ++ o) obs' h hob k
    exact ⟨.step hs hst (fun q hq => h2 q (by simp [hq])) h1, fun q hq => h2 q (by simp [hq])⟩
  | .k keep :: ays, todo, todo', st, st', obs, obs', h, hob, k => by
    simp only [exec] at h
    obtain ⟨h1, h2⟩ := exec_run ays todo todo' (canon keep st) st' obs obs' h hob k
    exact ⟨.conv (canon_ok keep st) h1, h2⟩
  | .f t :: ays, todo, todo', st, st', obs, obs', h, hob, k => by
    simp only [exec] at h
    obtain ⟨h1, h2⟩ := exec_run ays todo todo' (freezeAt t st) st' obs obs' h hob k
    exact ⟨.conv (freezeAt_ok t st) h1, h2⟩
structure Obs (l : List Prop) : Prop where mk ::
  h : AllP l
theorem Obs.of {α : Prop} {l : List Prop} (h : α = AllP l) (x : α) : Obs l := ⟨h ▸ x⟩
theorem Obs.tt {l : List Prop} (h : l = []) : Obs l := ⟨by rw [h]; trivial⟩
def obsF (P : Program) (ays : List Ac) (todo : List Item) (st : St) : List Prop :=
  match exec P ays todo st [] with
  | some x => x.2.2
  | none => []
def endF (P : Program) (ays : List Ac) (todo : List Item) (st : St) : Option (List Item × St) :=
  match exec P ays todo st [] with
  | some x => some (x.1, x.2.1)
  | none => none
theorem Run.go {P : Program} {fn : Func} {r : FV} {H : List Ob} {todo todo' : List Item} {st st' : St} (ays : List Ac) (h : endF P ays todo st = some (todo', st')) (hob : Obs (obsF P ays todo st)) (k : Run P fn todo' st' r H) : Run P fn todo st r H := by
  unfold endF at h
  replace hob := hob.h
  unfold obsF at hob
  cases he : exec P ays todo st [] with
  | none => simp [he] at h
  | some x =>
    simp only [he, Option.some.injEq, Prod.mk.injEq] at h hob
    obtain ⟨rfl, rfl⟩ := h
    exact (exec_run ays todo _ st _ [] _ he hob.all k).1
def closeR (r : FV) (H : List Ob) : Option (FV × List Ob) :=
  match canon [0] ⟨[r], H⟩ with
  | ⟨[r'], H'⟩ => some (r', H')
  | _ => none
theorem closeR_ok {E : En} {F : Nat → Prop} {w : World} {κ : Nat → Value} {r r' : FV} {H H' : List Ob} {v : Value} (h : closeR r H = some (r', H')) (hi : Inv E ⟨F, w, κ, H⟩) (hr : RelV ⟨F, w, κ, H⟩ r v) : ∃ F' κ', Inv E ⟨F', w, κ', H'⟩ ∧ RelV ⟨F', w, κ', H'⟩ r' v := by
  unfold closeR at h
  split at h
  case h_2 => cases h
  rename_i r1 H1 he
  simp only [Option.some.injEq, Prod.mk.injEq] at h
  obtain ⟨rfl, rfl⟩ := h
  obtain ⟨_, c, hw, hhp, hi', hf⟩ := canon_ok [0] ⟨[r], H⟩ ⟨E.w, E.F, E.M, fun _ _ => False⟩ { tmps := #[v], defers := [] } w ⟨⟨rfl, fun _ _ h => h.elim⟩, ⟨F, w, κ, H⟩, rfl, rfl, ⟨hi.chg, hi.f0, hi.f1, hi.lt, hi.objs, hi.inj, hi.own⟩, by simp only [RelVs]; exact ⟨v, [], rfl, hr, rfl⟩⟩
  rw [he] at hhp hf
  obtain ⟨F', w', κ', hp'⟩ := c
  simp only at hw hhp hf
  subst hw hhp
  simp only [RelVs] at hf
  obtain ⟨v', vs, hvv, h1, h2⟩ := hf
  simp only [List.cons.injEq] at hvv
  obtain ⟨rfl, _⟩ := hvv
  exact ⟨F', κ', ⟨hi'.chg, hi'.f0, hi'.f1, hi'.lt, hi'.objs, hi'.inj, hi'.own⟩, h1⟩
def plainR : FV → List Ob → Option (FV × List Ob)
  | .agg cs, hp => match toAVs (look hp) cs with
    | some ays => some (.agg (ays.map .p), setUps hp (frzs (look hp) cs))
    | none => none
  | x, hp => some (x, hp)
def plainRs : List FV → List Ob → Option (List FV × List Ob)
  | [], hp => some ([], hp)
  | x :: xs, hp => match plainR x hp with
    | none => none
    | some (y, hp1) => match plainRs xs hp1 with
      | none => none
      | some (ys, hp2) => some (y :: ys, hp2)
def plainT : FV → List Ob → Option (FV × List Ob)
  | .tup us, hp => match plainRs us hp with
    | none => none
    | some (ys, hp') => some (.tup ys, hp')
  | x, hp => plainR x hp
theorem plainR_ok {E : En} {F : Nat → Prop} {w : World} {κ : Nat → Value} {r r' : FV} {H H' : List Ob} {v : Value} (h : plainR r H = some (r', H')) (hi : Inv E ⟨F, w, κ, H⟩) (hr : RelV ⟨F, w, κ, H⟩ r v) :
    ∃ F', Inv E ⟨F', w, κ, H'⟩ ∧ Le ⟨F, w, κ, H⟩ ⟨F', w, κ, H'⟩ ∧ RelV ⟨F', w, κ, H'⟩ r' v := by
  by_cases hx : ∃ cs, r = .agg cs
  · obtain ⟨cs, rfl⟩ := hx
    simp only [plainR] at h
    split at h
    case h_2 => cases h
    rename_i ays has
    simp only [Option.some.injEq, Prod.mk.injEq] at h
    obtain ⟨rfl, rfl⟩ := h
    simp only [RelV] at hr
    obtain ⟨vs, rfl, hvs⟩ := hr
    obtain ⟨F', h1, h2, h3, h4, h5⟩ := frzs_ok (E := E) (look H) cs ays ⟨F, w, κ, H⟩ vs.toList hi (fun id => .inr (.inl rfl)) has hvs
    exact ⟨F', h1, h2, by simp only [RelV]; exact ⟨vs, rfl, relVs_p h4 h5⟩⟩
  · have : r' = r ∧ H' = H := by
      cases r <;> first | exact absurd ⟨_, rfl⟩ hx | (simp only [plainR, Option.some.injEq, Prod.mk.injEq] at h; exact ⟨h.1.symm, h.2.symm⟩)
    obtain ⟨rfl, rfl⟩ := this
    exact ⟨F, hi, Le.refl _, hr⟩
theorem plainRs_ok {E : En} {w : World} {κ : Nat → Value} : ∀ (rs rs' : List FV) (F : Nat → Prop) (H H' : List Ob) (vs : List Value), plainRs rs H = some (rs', H') → Inv E ⟨F, w, κ, H⟩ → RelVs ⟨F, w, κ, H⟩ rs vs →
    ∃ F', Inv E ⟨F', w, κ, H'⟩ ∧ Le ⟨F, w, κ, H⟩ ⟨F', w, κ, H'⟩ ∧ RelVs ⟨F', w, κ, H'⟩ rs' vs
  | [], rs', F, H, H', vs, h, hi, hr => by
    simp only [plainRs, Option.some.injEq, Prod.mk.injEq] at h
    obtain ⟨rfl, rfl⟩ := h
    exact ⟨F, hi, Le.refl _, by simpa [RelVs] using hr⟩
  | x :: xs, rs', F, H, H', vs, h, hi, hr => by
    simp only [plainRs] at h
    split at h
    case h_1 => cases h
    rename_i y hp1 hy
    split at h
    case h_1 => cases h
    rename_i ys hp2 hys
    simp only [Option.some.injEq, Prod.mk.injEq] at h
    obtain ⟨rfl, rfl⟩ := h
    simp only [RelVs] at hr
    obtain ⟨v, vs', rfl, hv, hvs⟩ := hr
    obtain ⟨F1, i1, l1, r1⟩ := plainR_ok hy hi hv
    obtain ⟨F2, i2, l2, r2⟩ := plainRs_ok xs ys F1 hp1 hp2 vs' hys i1 (RelVs.keep l1 _ _ hvs)
    exact ⟨F2, i2, Le.trans l1 l2, by simp only [RelVs]; exact ⟨v, vs', rfl, RelV.keep l2 _ _ r1, r2⟩⟩
theorem plainT_ok {E : En} {F : Nat → Prop} {w : World} {κ : Nat → Value} {r r' : FV} {H H' : List Ob} {v : Value} (h : plainT r H = some (r', H')) (hi : Inv E ⟨F, w, κ, H⟩) (hr : RelV ⟨F, w, κ, H⟩ r v) :
    ∃ F', Inv E ⟨F', w, κ, H'⟩ ∧ RelV ⟨F', w, κ, H'⟩ r' v := by
  by_cases hx : ∃ us, r = .tup us
  · obtain ⟨us, rfl⟩ := hx
    simp only [plainT] at h
    split at h
    case h_1 => cases h
    rename_i ys hp' hys
    simp only [Option.some.injEq, Prod.mk.injEq] at h
    obtain ⟨rfl, rfl⟩ := h
    simp only [RelV] at hr
    obtain ⟨vs, rfl, hvs⟩ := hr
    obtain ⟨F', h1, _, h3⟩ := plainRs_ok us ys F H hp' vs.toList hys hi hvs
    exact ⟨F', h1, by simp only [RelV]; exact ⟨vs, rfl, h3⟩⟩
  · have : plainR r H = some (r', H') := by
      cases r <;> first | exact absurd ⟨_, rfl⟩ hx | exact h
    obtain ⟨F', h1, _, h3⟩ := plainR_ok this hi hr
    exact ⟨F', h1, h3⟩
def RunC (P : Program) (fn : Func) (todo : List Item) (st : St) (r : FV) (H : List Ob) : Prop := ∃ r0 H0, Run P fn todo st r0 H0 ∧ (∃ r1 H1, plainT r0 H0 = some (r1, H1) ∧ closeR r1 H1 = some (r, H))
theorem RunC.go {P : Program} {fn : Func} {r : FV} {H : List Ob} {todo todo' : List Item} {st st' : St} (ays : List Ac) (h : endF P ays todo st = some (todo', st')) (hob : Obs (obsF P ays todo st)) (k : RunC P fn todo' st' r H) : RunC P fn todo st r H := by
  obtain ⟨r0, H0, k1, k2⟩ := k
  exact ⟨r0, H0, Run.go ays h hob k1, k2⟩
def outF (P : Program) (fn : Func) (ays : List Ac) (todo : List Item) (st : St) : Option (FV × List Ob) :=
  match exec P ays todo st [] with
  | some x => if isEnd x.1 then match resF P fn x.2.1 with
      | some r => match plainT r x.2.1.hp with
        | some (r1, H1) => closeR r1 H1
        | none => none
      | none => none
    else none
  | none => none
theorem RunC.out {P : Program} {fn : Func} {r : FV} {H : List Ob} {todo : List Item} {st : St} (ays : List Ac) (h : outF P fn ays todo st = some (r, H)) (hob : Obs (obsF P ays todo st)) : RunC P fn todo st r H := by
  unfold outF at h
  replace hob := hob.h
  unfold obsF at hob
  cases he : exec P ays todo st [] with
  | none => simp [he] at h
  | some x =>
    simp only [he] at h hob
    split at h
    case isFalse => cases h
    rename_i hend
    split at h
    case h_2 => cases h
    rename_i r' hr
    split at h
    case h_2 => cases h
    rename_i r1 H1 hp
    exact ⟨r', _, (exec_run ays todo _ st _ [] _ he hob.all (.done hend hr)).1, r1, H1, hp, h⟩
theorem spec_of {P : Program} (hmix : P.follows .mixedOrders = true) {f : FuncId} {fn : Func} (hfn : P.funcs[f]? = some fn) {body : Code} (hb : fn.body = some body) {args : List FV} {r : FV} {H : List Ob} {todo : List Item} {st : St}
    (ht : ([.code body], (⟨args ++ List.replicate (fn.ntmps - args.length) .u, []⟩ : St)) = (todo, st)) (h : RunC P fn todo st r H) : Spec P f args r H := by
  simp only [Prod.mk.injEq] at ht
  obtain ⟨rfl, rfl⟩ := ht
  obtain ⟨r0, H0, h1, r1, H1, hp, h2⟩ := h
  intro w F κ vs hF hv
  refine (spec_of_run hmix hfn hb h1 w F κ vs hF hv).mono fun e w' ⟨v, F', κ', he, hI, hR⟩ => ?_
  obtain ⟨F1, hI1, hR1⟩ := plainT_ok hp hI hR
  obtain ⟨F2, κ2, h3, h4⟩ := closeR_ok h2 hI1 hR1
  exact ⟨v, F2, κ2, he, h3, h4⟩
def nav : Nat → List Bool → List Item → List Item
  | 0, _, t => t
  | n + 1, bs, t => match t with
    | .inBlock _ :: k => nav n bs k
    | .inLoop c :: k => nav n bs (.code c :: .inLoop c :: k)
    | .code c :: k => match c with
      | .skip => nav n bs k
      | .label _ => nav n bs k
      | .region .. => nav n bs k
      | .seq x y => nav n bs (.code x :: .code y :: k)
      | .cond _ x y => match bs with
        | b :: bs => nav n bs (.code (if b then x else y) :: k)
        | [] => t
      | .block id c => nav n bs (.code c :: .inBlock id :: k)
      | .loop c => nav n bs (.code c :: .inLoop c :: k)
      | .exit id => match exitTo id k with
        | some k' => nav n bs k'
        | none => t
      | _ => t
    | t => t
def bodyOf (fn : Func) : Code := fn.body.getD .skip
def frOf : Nat → Nat → List (Nat × FV) → List FV
  | 0, _, _ => []
  | n + 1, t, [] => .u :: frOf n (t + 1) []
  | n + 1, t, (i, x) :: l => if i = t then x :: frOf n (t + 1) l else .u :: frOf n (t + 1) ((i, x) :: l)
def eL {α : Type} (sz : Nat) (c : α → List AV) (d : α) (xs : List α) : AV := .sl sz xs.length (fun i j => (c (xs.getD i d)).getD j .u)
def oL {α : Type} (own : Bool) (e sz : Nat) (c : α → List AV) (d : α) (xs : List α) : Ob := .arr own e sz xs.length (fun i j => (c (xs.getD i d)).getD j .u)
def cI (k : IntKind) (x : Int) : List AV := [.int k x]
def cS (x : ByteArray) : List AV := [.str x]
def cL {α : Type} (sz : Nat) (c : α → List AV) (d : α) (x : List α) : List AV := [eL sz c d x]
theorem le_nil {α : Type} (e sz : Nat) (c : α → List AV) (d : α) : ObLe (.arr true e sz 0 (fun _ _ => .u)) (oL true e sz c d []) :=
  ⟨rfl, rfl, rfl, rfl, fun i hi => absurd hi (Nat.not_lt_zero _)⟩
theorem le_one {α : Type} (e sz : Nat) (c : α → List AV) (d : α) (x : α) : ObLe (.arr true e sz 1 (fun a b => (c x).getD (a * sz + b) .u)) (oL true e sz c d [x]) := by
  refine ⟨rfl, rfl, rfl, by simp, fun i hi j hj => ?_⟩
  have : i = 0 := by omega
  subst this
  simp
theorem le_app {α : Type} (e sz : Nat) (c : α → List AV) (d : α) (xs ys : List α) : ObLe (.arr true e sz (xs.length + ys.length) (appA xs.length (fun i j => (c (xs.getD i d)).getD j .u) (fun i j => (c (ys.getD i d)).getD j .u))) (oL true e sz c d (xs ++ ys)) := by
  refine ⟨rfl, rfl, rfl, by simp, fun i hi j hj => ?_⟩
  unfold appA
  split
  · rename_i h
    dsimp only
    congr 2
    rw [List.getD_eq_getElem?_getD, List.getD_eq_getElem?_getD, List.getElem?_append_left h]
  · rename_i h
    dsimp only
    congr 2
    rw [List.getD_eq_getElem?_getD, List.getD_eq_getElem?_getD, List.getElem?_append_right (by omega)]
theorem le_set {α : Type} (e sz : Nat) (c : α → List AV) (d : α) (xs : List α) (x : α) (q : Nat) (hs : (c x).length = sz) : ObLe (.arr true e sz xs.length (fun i' j' => if i' = q ∧ 0 ≤ j' ∧ j' < 0 + sz then (c x).getD (j' - 0) .u else (c (xs.getD i' d)).getD j' .u)) (oL true e sz c d (xs.set q x)) := by
  refine ⟨rfl, rfl, rfl, by simp, fun i hi j hj => ?_⟩
  dsimp only
  by_cases h : i = q
  · subst h
    rw [if_pos ⟨rfl, Nat.zero_le _, by omega⟩, Nat.sub_zero]
    congr 2
    simp [List.getD_eq_getElem?_getD, hi]
  · rw [if_neg (fun h' => h h'.1)]
    congr 2
    simp [List.getD_eq_getElem?_getD, List.getElem?_set_ne (Ne.symm h)]
theorem ite_some {α : Type} {c : Prop} [Decidable c] {a : Option α} {r : α} (h : (if c then a else none) = some r) : c ∧ a = some r := by
  split at h
  · exact ⟨‹c›, h⟩
  · cases h
theorem ite_or {α : Type} {c : Prop} [Decidable c] {a b : Option α} {r : α} (h : (if c then a else b) = some r) : (c ∧ a = some r) ∨ (¬ c ∧ b = some r) := by
  split at h
  · exact .inl ⟨‹c›, h⟩
  · exact .inr ⟨‹¬ c›, h⟩
theorem bind_or {α β : Type} {a : Option α} {f : α → Option β} {r : β} (h : a.bind f = some r) : ∃ x, a = some x ∧ f x = some r := Option.bind_eq_some_iff.1 h
theorem nt {b : Bool} (h : ¬ (b = true)) : b = false := by cases b <;> simp_all
theorem le_build0 {α : Type} (e sz : Nat) (c : α → List AV) (d : α) : ObLe (.arr true e sz 0 (fun a b => ([] : List AV).getD (a * sz + b) .u)) (oL true e sz c d []) :=
  ⟨rfl, rfl, rfl, rfl, fun i hi => absurd hi (Nat.not_lt_zero _)⟩
theorem ObLe.refl {own : Bool} {e sz n : Nat} {f : Nat → Nat → AV} : ObLe (.arr own e sz n f) (.arr own e sz n f) := ⟨rfl, rfl, rfl, rfl, fun _ _ _ _ => rfl⟩
theorem getD_flat {α : Type} {sz : Nat} {c : α → List AV} (d : α) (hs : ∀ x, (c x).length = sz) : ∀ (xs : List α) (i j : Nat), i < xs.length → j < sz → (xs.flatMap c).getD (i * sz + j) .u = (c (xs.getD i d)).getD j .u
  | [], i, j, h, _ => by simp at h
  | x :: xs, i, j, h, hj => by
    rw [List.flatMap_cons]
    cases i with
    | zero =>
      rw [Nat.zero_mul, Nat.zero_add, List.getD_eq_getElem?_getD, List.getElem?_append_left (by rw [hs]; exact hj), ← List.getD_eq_getElem?_getD]
      simp
    | succ i =>
      rw [List.getD_eq_getElem?_getD, List.getElem?_append_right (by rw [hs, Nat.add_mul, Nat.one_mul]; omega), hs, show (i + 1) * sz + j - sz = i * sz + j from by rw [Nat.add_mul, Nat.one_mul]; omega, ← List.getD_eq_getElem?_getD]
      have := getD_flat d hs xs i j (by simpa using h) hj
      simpa using this
theorem le_lit {α : Type} (e sz : Nat) (c : α → List AV) (d : α) (xs : List α) (hs : ∀ x, (c x).length = sz) : ObLe (.arr true e sz xs.length (fun a b => (xs.flatMap c).getD (a * sz + b) .u)) (oL true e sz c d xs) :=
  ⟨rfl, rfl, rfl, rfl, fun i hi j hj => getD_flat d hs xs i j hi hj⟩
theorem av_slice {α : Type} (sz : Nat) (c : α → List AV) (d : α) (xs : List α) (l h : Int) (hb : 0 ≤ l ∧ l ≤ h ∧ h ≤ (xs.length : Int)) : AVLe (.sl sz (h.toNat - l.toNat) (fun a b => (c (xs.getD (l.toNat + a) d)).getD b .u)) (eL sz c d ((xs.take h.toNat).drop l.toNat)) := by
  have hl : ((xs.take h.toNat).drop l.toNat).length = h.toNat - l.toNat := by rw [List.length_drop, List.length_take]; omega
  rintro F w v ⟨b, cap, h1, h2, h3, h4⟩
  refine ⟨b, cap, by rw [hl]; exact h1, by rw [hl]; exact h2, h3, ?_⟩
  rw [hl]
  refine h4.imp id ?_
  rintro ⟨b', o, k1, k2, k3⟩
  refine ⟨b', o, k1, k2, fun i hi j hj => ?_⟩
  obtain ⟨x, k4, k5⟩ := k3 i hi j hj
  refine ⟨x, k4, ?_⟩
  have : ((xs.take h.toNat).drop l.toNat).getD i d = xs.getD (l.toNat + i) d := by
    rw [List.getD_eq_getElem?_getD, List.getD_eq_getElem?_getD, List.getElem?_drop, List.getElem?_take, if_pos (by omega)]
  dsimp only
  rw [this]
  exact k5
theorem fle_rfl (x : FV) : FVLe x x := fun _ _ h => h
theorem fle_nil {α : Type} (sz : Nat) (c : α → List AV) (d : α) : FVLe .nil (.p (eL sz c d [])) := by
  intro cx v h
  simp only [RelV] at h ⊢
  exact ⟨none, 0, h, Nat.le_refl _, fun _ => rfl, .inl rfl⟩
theorem fls_nil : FVsLe [] [] := fun _ _ h => h
theorem fls_cons {x y : FV} {xs ys : List FV} (h : FVLe x y) (k : FVsLe xs ys) : FVsLe (x :: xs) (y :: ys) := by
  intro c vs hr
  simp only [RelVs] at hr ⊢
  obtain ⟨v, vs', hv, h1, h2⟩ := hr
  exact ⟨v, vs', hv, h _ _ h1, k _ _ h2⟩
theorem fle_agg {xs ys : List FV} (h : FVsLe xs ys) : FVLe (.agg xs) (.agg ys) := by
  intro c v hr
  simp only [RelV] at hr ⊢
  obtain ⟨vs, hv, h1⟩ := hr
  exact ⟨vs, hv, h _ _ h1⟩
def subL {α : Type} (xs : List α) (l h : Int) : List α := (xs.take h.toNat).drop l.toNat
theorem subL_len {α : Type} {xs : List α} {l h : Int} (hb : 0 ≤ l ∧ l ≤ h ∧ h ≤ (xs.length : Int)) : (subL xs l h).length = h.toNat - l.toNat := by
  rw [subL, List.length_drop, List.length_take]; omega
theorem subL_get {α : Type} {xs : List α} {l h : Int} (d : α) {i : Nat} (hi : i < h.toNat - l.toNat) : (subL xs l h).getD i d = xs.getD (l.toNat + i) d := by
  rw [subL, List.getD_eq_getElem?_getD, List.getD_eq_getElem?_getD, List.getElem?_drop, List.getElem?_take, if_pos (by omega)]
theorem le_appSS {α : Type} (e sz : Nat) (c : α → List AV) (d : α) (xs ys : List α) (h1 l2 h2 : Int) (b1 : 0 ≤ (0 : Int) ∧ 0 ≤ h1 ∧ h1 ≤ (xs.length : Int)) (b2 : 0 ≤ l2 ∧ l2 ≤ h2 ∧ h2 ≤ (ys.length : Int)) :
    ObLe (.arr true e sz ((h1.toNat - (0 : Int).toNat) + (h2.toNat - l2.toNat)) (appA (h1.toNat - (0 : Int).toNat) (fun i j => (c (xs.getD i d)).getD j .u) (fun a b => (c (ys.getD (l2.toNat + a) d)).getD b .u))) (oL true e sz c d (subL xs 0 h1 ++ subL ys l2 h2)) := by
  have e1 := subL_len b1
  have e2 := subL_len b2
  refine ⟨rfl, rfl, rfl, by rw [List.length_append, e1, e2], fun i hi j hj => ?_⟩
  unfold appA
  dsimp only
  split
  · rename_i h
    rw [List.getD_eq_getElem?_getD (l := subL xs 0 h1 ++ subL ys l2 h2), List.getElem?_append_left (by rw [e1]; exact h), ← List.getD_eq_getElem?_getD, subL_get d h]
    simp
  · rename_i h
    rw [List.getD_eq_getElem?_getD (l := subL xs 0 h1 ++ subL ys l2 h2), List.getElem?_append_right (by rw [e1]; omega), ← List.getD_eq_getElem?_getD, e1, subL_get d (by omega)]
def copyL {α : Type} (xs : List α) (l h : Int) (ys : List α) : List α := xs.take l.toNat ++ (ys.take (h.toNat - l.toNat) ++ xs.drop (l.toNat + min ys.length (h.toNat - l.toNat)))
theorem le_copySS {α : Type} (e sz : Nat) (c : α → List AV) (d : α) (xs ys : List α) (l h l2 h2 : Int) (b1 : 0 ≤ l ∧ l ≤ h ∧ h ≤ (xs.length : Int)) (b2 : 0 ≤ l2 ∧ l2 ≤ h2 ∧ h2 ≤ (ys.length : Int)) :
    ObLe (.arr true e sz xs.length (cpA l.toNat (Nat.min (h2.toNat - l2.toNat) (h.toNat - l.toNat)) (fun i j => (c (xs.getD i d)).getD j .u) (fun a b => (c (ys.getD (l2.toNat + a) d)).getD b .u))) (oL true e sz c d (copyL xs l h (subL ys l2 h2))) := by
  have e2 := subL_len b2
  have hmin : Nat.min (h2.toNat - l2.toNat) (h.toNat - l.toNat) = min (h2.toNat - l2.toNat) (h.toNat - l.toNat) := rfl
  have hl1 : (xs.take l.toNat).length = l.toNat := by rw [List.length_take]; omega
  have hl2 : ((subL ys l2 h2).take (h.toNat - l.toNat)).length = min (h2.toNat - l2.toNat) (h.toNat - l.toNat) := by rw [List.length_take, e2]; omega
  refine ⟨rfl, rfl, rfl, ?_, fun i hi j hj => ?_⟩
  · rw [copyL, List.length_append, List.length_append, hl1, hl2, List.length_drop, e2]
    omega
  · unfold cpA
    dsimp only
    rw [hmin]
    rw [List.getD_eq_getElem?_getD (l := copyL xs l h (subL ys l2 h2)), copyL]
    by_cases h1 : i < l.toNat
    · rw [if_neg (by omega), List.getElem?_append_left (by omega), List.getElem?_take, if_pos h1, ← List.getD_eq_getElem?_getD]
    · rw [List.getElem?_append_right (by omega), hl1]
      by_cases h3 : i < l.toNat + min (h2.toNat - l2.toNat) (h.toNat - l.toNat)
      · rw [if_pos ⟨by omega, h3⟩, List.getElem?_append_left (by omega), List.getElem?_take, if_pos (by omega), ← List.getD_eq_getElem?_getD, subL_get d (by omega)]
      · rw [if_neg (by omega), List.getElem?_append_right (by omega), hl2, List.getElem?_drop, e2, ← List.getD_eq_getElem?_getD]
        congr 3
        omega
theorem itp {α : Type} {c : Prop} [Decidable c] {a b : Option α} {r : α} (h : c) (k : a = some r) : (if c then a else b) = some r := by rw [if_pos h]; exact k
theorem itn {α : Type} {c : Prop} [Decidable c] {a b : Option α} {r : α} (h : ¬ c) (k : b = some r) : (if c then a else b) = some r := by rw [if_neg h]; exact k
theorem bnd {α β : Type} {a : Option α} {f : α → Option β} {x : α} {r : β} (h : a = some x) (k : f x = some r) : a.bind f = some r := by rw [h]; exact k
end Go.Proofs.YtjhnpaenhdbhpacV
set_option linter.unusedVariables false
set_option linter.unusedSimpArgs false
set_option linter.constructorNameAsVariable false
namespace Go.Proofs.YtjhnpaenhdbhpacV
open Go Go.RowKit
theorem run_next {P : Program} {w : World} {b bm n : Nat} {seen : List Nat} {ents : Array MapEntry} (ty : TypeId) (hb : w.heap[b]? = some (.mapIter (some bm) n seen.toArray n)) (hm : w.heap[bm]? = some (.map ents ents.size)) (hn : ents.size = n)
    (hborn : ∀ (i : Nat) (x : MapEntry), ents[i]? = some x → x.born = i) :
    (∃ (w' : World) (i : Nat), i < n ∧ i ∉ seen ∧ w'.heap = w.heap.setIfInBounds b (.mapIter (some bm) n (seen ++ [i]).toArray n) ∧ w'.tape = w.tape ∧ w'.os = w.os ∧ w'.output = w.output ∧ w.drawn ≤ w'.drawn ∧ ∃ k v, (Instr.next (.pointer (some ⟨b, 0, none⟩)) false ty).run P w = .ok (.tuple #[.bool true, k, v]) w') ∨
    ((∀ i, i < n → i ∈ seen) ∧ ∃ w' : World, w'.heap = w.heap ∧ w'.tape = w.tape ∧ w'.os = w.os ∧ w'.output = w.output ∧ w.drawn ≤ w'.drawn ∧ (Instr.next (.pointer (some ⟨b, 0, none⟩)) false ty).run P w = .ok (.tuple #[.bool false]) w') := by
  subst hn
  have hobj : (getObj b).run P w = .ok (.mapIter (some bm) ents.size seen.toArray ents.size) w := by simp [getObj, Sem.run, hb]
  have hcond : (!seen.toArray.isEmpty && !ents.isEmpty && ents.all fun x => decide (x.born ≥ ents.size)) = false := by
    by_cases he : ents.size = 0
    · have : ents.isEmpty = true := by simpa using he
      simp [this]
    · have h0 : 0 < ents.size := by omega
      have hb0 := hborn 0 ents[0] (Array.getElem?_eq_getElem h0)
      have : (ents.all fun x => decide (x.born ≥ ents.size)) = false := by
        rw [← Bool.not_eq_true, Array.all_eq_true]
        intro h
        have := h 0 h0
        rw [decide_eq_true_eq, hb0] at this
        omega
      simp [this]
  have hlt : ∀ x ∈ ents, x.born < ents.size := by
    intro x hx
    obtain ⟨i, hi, rfl⟩ := Array.mem_iff_getElem.1 hx
    rw [hborn i _ (Array.getElem?_eq_getElem hi)]
    exact hi
  obtain ⟨left, hleft⟩ : ∃ left, ents.filter (fun e => !seen.toArray.contains e.born) = left := ⟨_, rfl⟩
  have hll : ∀ x ∈ left, x.born < ents.size ∧ x.born ∉ seen := by
    intro x hx
    rw [← hleft, Array.mem_filter] at hx
    exact ⟨hlt x hx.1, by simpa using hx.2⟩
  have hold : left.filter (fun x => decide (x.born < ents.size)) = left := by
    rw [Array.filter_eq_self]
    intro x hx
    simpa using (hll x hx).1
  have hnew : left.filter (fun x => decide (x.born ≥ ents.size)) = #[] := by
    rw [Array.filter_eq_empty_iff]
    intro x hx
    have := (hll x hx).1
    simp
    omega
  by_cases hemp : left = #[]
  · right
    refine ⟨fun i hi => ?_, w, rfl, rfl, rfl, rfl, Nat.le_refl _, ?_⟩
    · by_cases hs : i ∈ seen
      · exact hs
      · exfalso
        have : ents[i] ∈ left := by
          rw [← hleft, Array.mem_filter]
          refine ⟨Array.getElem_mem _, ?_⟩
          rw [hborn i _ (Array.getElem?_eq_getElem hi)]
          simpa using hs
        rw [hemp] at this
        simp at this
    · unfold Instr.next
      simp only [Sem.run_bind, hobj, Result.andThen_ok, Go.MapKept.run_getObj_map hm, hcond, Bool.false_eq_true, if_false, hleft, hold, hnew, hemp]
      simp [choose, Sem.run, Question.forced]
  · left
    have hpos : 0 < left.size := by
      rcases Nat.eq_zero_or_pos left.size with h | h
      · exact absurd (Array.eq_empty_of_size_eq_zero h) hemp
      · exact h
    have hie : left.isEmpty = false := by simpa using hemp
    obtain ⟨q, hq⟩ : ∃ q, Question.mapNext (left.map some).size = q := ⟨_, rfl⟩
    have hch : ∃ (j : Nat) (w1 : World), (choose q).run P w = .ok j w1 ∧ j < left.size ∧ w1.heap = w.heap ∧ w1.tape = w.tape ∧ w1.os = w.os ∧ w1.output = w.output ∧ w.drawn ≤ w1.drawn := by
      by_cases hf : q.forced = true
      · exact ⟨0, w, by simp [choose, Sem.run, hf], hpos, rfl, rfl, rfl, rfl, Nat.le_refl _⟩
      · refine ⟨q.cut (w.tape w.drawn q), w.drew, by simp [choose, Sem.run, hf], ?_, rfl, rfl, rfl, rfl, Nat.le_succ _⟩
        rw [← hq]
        simp only [Question.cut, Array.size_map]
        exact Nat.mod_lt _ hpos
    obtain ⟨j, w1, hrun, hj, e1, e2, e3, e4, e5⟩ := hch
    have hx := hll left[j] (Array.getElem_mem _)
    refine ⟨{ w1 with heap := w1.heap.setIfInBounds b (.mapIter (some bm) ents.size (seen ++ [left[j].born]).toArray ents.size) }, left[j].born, hx.1, hx.2, by simp [e1], e2, e3, e4, e5, left[j].key, left[j].val, ?_⟩
    unfold Instr.next
    simp only [Sem.run_bind, hobj, Result.andThen_ok, Go.MapKept.run_getObj_map hm, hcond, Bool.false_eq_true, if_false, hleft, hold, hnew, hie, Array.append_empty, Array.empty_append]
    rw [hq, hrun]
    simp only [Result.andThen_ok]
    have hg : (left.map some)[j]? = some (some left[j]) := by simp [hj]
    simp only [hg]
    simp [setObj, Sem.run, e1, hb]
def nxtF (todo : List Item) (st : St) : Option (List Item × Nat × Nat × Nat × Nat × Nat × List Nat × List (PV × PV)) :=
  match todo with
  | .code (.region _ ops false) :: k => match ops.toList with
    | [o0, o1] => match o0.op, o0.dst, o0.guard, o1.op, o1.dst, o1.guard with
      | .next (.tmp it) false, some a, none, .extract (.tmp a') 0, some b, none => if a' = a ∧ a < st.fr.length then
          match st.fr.getD it .u with
          | .mref id m => match look st.hp id with
            | .reg (.iter m' n seen _) => if m' = m then
                match look st.hp m with
                | .reg (.map es) => some (k, a, b, id, m, n, seen, es)
                | _ => none
              else none
            | _ => none
          | _ => none
        else none
      | _, _, _, _, _, _ => none
    | _ => none
  | _ => none
def nxtSt (st : St) (a b : Nat) (ok : Bool) (hp : List Ob) : St := ⟨(st.fr.set a .u).set b (.p (.bool ok)), hp⟩
theorem nxt_ok {P : Program} {E : En} {todo k : List Item} {st : St} {a b id m n : Nat} {seen : List Nat} {es : List (PV × PV)} (h : nxtF todo st = some (k, a, b, id, m, n, seen, es)) (hn : n = es.length) (hfx : ∀ t v, E.fx t v → tdst t todo = true) {c0 : Act} {w : World} (hr : SRel E st c0 w) (f : Frame) (cs : List Frame) :
    ∃ a' w', Steps P (lone (f.at c0 todo) cs w) (lone (f.at a' k) cs w') ∧ ((∃ i, i < n ∧ i ∉ seen ∧ SRel E (nxtSt st a b true (st.hp.set id (.reg (.iter m n (seen ++ [i]) (some i))))) a' w') ∨ ((∀ i, i < n → i ∈ seen) ∧ SRel E (nxtSt st a b false st.hp) a' w')) := by
  unfold nxtF at h
  split at h
  case h_2 => cases h
  rename_i rid ops k'
  split at h
  case h_2 => cases h
  rename_i o0 o1 hops
  split at h
  case h_2 => cases h
  rename_i it a1 a2 b1 p0 d0 g0 p1 d1 g1
  split at h
  case isFalse => cases h
  rename_i haa
  obtain ⟨rfl, hal⟩ := haa
  split at h
  case h_2 => cases h
  rename_i id1 m1 hit
  split at h
  case h_2 => cases h
  rename_i m2 n1 seen1 cur ho
  split at h
  case isFalse => cases h
  rename_i hmm
  subst hmm
  split at h
  case h_2 => cases h
  rename_i es1 hes
  simp only [Option.some.injEq, Prod.mk.injEq] at h
  obtain ⟨rfl, rfl, rfl, rfl, rfl, rfl, rfl, rfl⟩ := h
  obtain ⟨⟨hd, hfix⟩, c, rfl, hhp, hi, hf⟩ := hr
  have hops' : ops = #[o0, o1] := Array.toList_inj.1 hops
  subst hops'
  have o1' := hi.objs id1
  have o2' := hi.objs m2
  rw [hhp, ho] at o1'
  rw [hhp, hes] at o2'
  obtain ⟨bb, hbb, _, _, hv1, bm, hbm, hitb, hcur⟩ := o1'
  obtain ⟨b2, hb2, _, _, hv2, ents, he, r1, r2, r3⟩ := o2'
  have hval := relV_val (a := c0) hf (.tmp it)
  simp only [valF, hit, Act.eval] at hval
  simp only [RelV] at hval hbm
  have hr1 := hval.2
  have hr2 := hbm.2
  rw [hhp, ho] at hr1
  rw [hhp, hes] at hr2
  have hbe : bm = b2 := by
    have : Value.map (some bm) = c.κ m2 := hr2
    rw [hv2] at this
    simpa using this
  subst hbe
  have hlen : ents.size = es1.length := by have := r1.length; simpa using this
  have hv : c0.tmps.getD it undef = .pointer (some ⟨bb, 0, none⟩) := by rw [← hv1]; exact hr1
  have hnfx : ∀ t v, E.fx t v → t ≠ a2 ∧ t ≠ b1 := by
    intro t v ht
    have := hfx t v ht
    simp only [tdst, List.all_cons, idst, cdst, Bool.and_eq_true] at this
    have h2 := this.1
    simp [d0, d1] at h2
    exact ⟨fun e => h2.1 e.symm, fun e => h2.2 e.symm⟩
  have hsz : a2 < c0.tmps.size := by
    have h1 : c0.tmps.size = st.fr.length := by rw [← hf.length]; simp
    rw [h1]
    exact hal
  have hreg : (Code.region rid #[o0, o1] false).wp P (fun e a' w' => e = .normal ∧ ((∃ i, i < n1 ∧ i ∉ seen1 ∧ SRel E (nxtSt st a2 b1 true (st.hp.set id1 (.reg (.iter m2 n1 (seen1 ++ [i]) (some i))))) a' w') ∨ ((∀ i, i < n1 → i ∈ seen1) ∧ SRel E (nxtSt st a2 b1 false st.hp) a' w'))) c0 c.w := by
    refine wp_region ?_
    show wpOps P #[o0, o1] _ [0, 1] c0 c.w
    have two : ∀ (w' : World) (u : Value) (us : Array Value) (ok : Bool), (Instr.next (c0.tmps.getD it undef) false o0.type).run P c.w = .ok u w' → u = .tuple us → us[0]? = some (.bool ok) →
        (∀ a' : Act, a'.defers = c0.defers → (∀ t v, E.fx t v → a'.tmps.getD t undef = v) → a'.tmps.toList = (c0.tmps.toList.set a2 u).set b1 (.bool ok) → (∃ i, i < n1 ∧ i ∉ seen1 ∧ SRel E (nxtSt st a2 b1 true (st.hp.set id1 (.reg (.iter m2 n1 (seen1 ++ [i]) (some i))))) a' w') ∨ ((∀ i, i < n1 → i ∈ seen1) ∧ SRel E (nxtSt st a2 b1 false st.hp) a' w')) →
        wpOps P #[o0, o1] (fun e a' w' => e = .normal ∧ ((∃ i, i < n1 ∧ i ∉ seen1 ∧ SRel E (nxtSt st a2 b1 true (st.hp.set id1 (.reg (.iter m2 n1 (seen1 ++ [i]) (some i))))) a' w') ∨ ((∀ i, i < n1 → i ∈ seen1) ∧ SRel E (nxtSt st a2 b1 false st.hp) a' w'))) [0, 1] c0 c.w := by
      intro w' u us ok hrun hu hok hfin
      have e0 : execOp c0.eval o0 = vN (Instr.next (c0.tmps.getD it undef) false o0.type) := by unfold execOp; rw [p0]; rfl
      have e1 : ∀ a'' : Act, execOp a''.eval o1 = vN (Instr.extract (a''.tmps.getD a2 undef) 0) := fun a'' => by unfold execOp; rw [p1]; rfl
      have hg0 : ∀ y, Region.wanted o0 y = true := fun y => by simp [Region.wanted, g0]
      have hg1 : ∀ y, Region.wanted o1 y = true := fun y => by simp [Region.wanted, g1]
      simp only [wpOps, List.getElem?_toArray, List.getElem?_cons_zero, hg0, if_true]
      left
      unfold Oper.wp
      rw [e0, vN, Sem.run_bind, hrun]
      simp only [Result.andThen_ok, Sem.run_pure, Oper.upon_value, List.getElem?_cons_succ, List.getElem?_cons_zero, hg1, if_true, d0]
      left
      rw [e1, vN, Sem.run_bind]
      have hput : (c0.put (some a2) u).tmps.getD a2 undef = u := by
        simp [Act.put, Array.getD_eq_getD_getElem?, hsz]
      rw [hput, hu]
      have hex : (Instr.extract (.tuple us) 0).run P w' = .ok (.bool ok) w' := by simp [Instr.extract, hok]
      rw [hex]
      simp only [Result.andThen_ok, Sem.run_pure, Oper.upon_value, d1]
      refine ⟨trivial, hfin _ rfl (fun t v ht => ?_) (by simp [Act.put, hu])⟩
      obtain ⟨h1, h2⟩ := hnfx t v ht
      have := hfix t v ht
      simp only [Act.put, Array.getD_eq_getD_getElem?]
      rw [Array.getElem?_setIfInBounds_ne (Ne.symm h2), Array.getElem?_setIfInBounds_ne (Ne.symm h1), ← Array.getD_eq_getD_getElem?]
      exact this
    have hfr : ∀ (c' : Cx) (a' : Act) (u : Value) (ok : Bool), Le c c' → a'.tmps.toList = (c0.tmps.toList.set a2 u).set b1 (.bool ok) → RelVs c' ((st.fr.set a2 .u).set b1 (.p (.bool ok))) a'.tmps.toList := by
      intro c' a' u ok hle ht
      rw [ht]
      exact RelVs.set (by simp [RelV, Rep]) (RelVs.set (by simp [RelV]) (RelVs.keep hle _ _ hf) a2) b1
    rcases run_next (P := P) o0.type hitb he (by rw [hlen, ← hn]) r3 with ⟨w', i, hi1, hi2, h1, h2, h3, h4, h5, kk, vv, hrun⟩ | ⟨hall, w', h1, h2, h3, h4, h5, hrun⟩
    · refine two w' _ _ true (by rw [hv]; exact hrun) rfl rfl fun a' ha hfx' ht => .inl ⟨i, hi1, hi2, ?_⟩
      obtain ⟨s1, s2, s3⟩ := heap_setIf (w := c.w) (o' := .mapIter (some bm) n1 (seen1 ++ [i]).toArray n1) hitb
      obtain ⟨i1, l1⟩ := hi.put (w' := w') (id := id1) (o := .reg (.iter m2 n1 (seen1 ++ [i]) (some i))) (by rw [hhp, ho]; rfl)
        ⟨h3, h2, h4, h5, by rw [h1, s2]; exact Nat.le_refl _, fun q _ hq => by rw [h1]; exact s3 q (fun e => hq (by rw [e]; exact hbb))⟩ (by rw [hhp, ho]; exact .inr ⟨rfl, _, rfl⟩)
        (fun hle => ⟨bb, hbb, by rw [h1, s2]; exact (Array.getElem?_eq_some_iff.1 hitb).1, hi.notF (i := id1) (by rw [hhp, ho]; rfl) bb hbb, hv1, bm, by
            have : RelV c (.mref m2 m2) (.map (some bm)) := by simp only [RelV]; exact hbm
            exact RelV.keep hle _ _ this, by rw [h1]; exact s1, fun q hq => by injection hq with hq; subst hq; simp⟩)
      exact ⟨⟨ha.trans hd, hfx'⟩, _, rfl, by show c.hp.set id1 _ = _; rw [hhp]; rfl, i1, hfr _ a' _ true l1 ht⟩
    · refine two w' _ _ false (by rw [hv]; exact hrun) rfl rfl fun a' ha hfx' ht => .inr ⟨hall, ?_⟩
      obtain ⟨i1, l1⟩ := hi.alike (hp := c.hp) (w' := w') (fun _ => rfl) h1 h2 h3 h4 h5
      exact ⟨⟨ha.trans hd, hfx'⟩, ⟨c.F, w', c.κ, c.hp⟩, rfl, hhp, i1, hfr _ a' _ false l1 ht⟩
  obtain ⟨e, a', w', ⟨rfl, hq⟩, harr⟩ := hreg f k' cs
  exact ⟨a', w', harr, hq⟩
def nilF (todo : List Item) (st : St) : Option (List Item × Nat × Nat × TypeId × FV × Nat) :=
  match todo with
  | .code (.region _ ops false) :: k => match ops.toList with
    | [o0, o1] => match o0.op, o0.dst, o0.guard, o1.op, o1.dst, o1.guard with
      | .move (.tmp x), some a, none, .binOp .eql t (.tmp a') (.const (.slice none 0 0)) _, some b, none => if a' = a ∧ a < st.fr.length then
          match st.fr.getD x .u with
          | .p (.sl sz n f) => some (k, a, b, t, .p (.sl sz n f), n)
          | _ => none
        else none
      | _, _, _, _, _, _ => none
    | _ => none
  | _ => none
theorem eq_slice_nil {P : Program} {w : World} (d : Nat) {t e : TypeId} {a : Option Addr} {l c : Nat} (h : P.underlying t = some (.slice e)) : (Op.equalIn (d + 1) t (.slice a l c) (.slice none 0 0)).run P w = .ok a.isNone w := by
  cases a <;> simp [Op.equalIn, run_underlying h]
def nilSt (st : St) (a b : Nat) (x : FV) (ok : Bool) : St := ⟨(st.fr.set a x).set b (.p (.bool ok)), st.hp⟩
theorem nil_ok {P : Program} {E : En} {todo k : List Item} {st : St} {a b n : Nat} {t e : TypeId} {x : FV} (h : nilF todo st = some (k, a, b, t, x, n)) (ht : P.underlying t = some (.slice e)) (hfx : ∀ t v, E.fx t v → tdst t todo = true) {c0 : Act} {w : World} (hr : SRel E st c0 w) (f : Frame) (cs : List Frame) :
    ∃ a' w', Steps P (lone (f.at c0 todo) cs w) (lone (f.at a' k) cs w') ∧ ((n = 0 ∧ SRel E (nilSt st a b x true) a' w') ∨ SRel E (nilSt st a b x false) a' w') := by
  unfold nilF at h
  split at h
  case h_2 => cases h
  rename_i rid ops k'
  split at h
  case h_2 => cases h
  rename_i o0 o1 hops
  split at h
  case h_2 => cases h
  rename_i sl a1 t1 a2 u1 b1 p0 d0 g0 p1 d1 g1
  split at h
  case isFalse => cases h
  rename_i haa
  obtain ⟨rfl, hal⟩ := haa
  split at h
  case h_2 => cases h
  rename_i sz n1 f1 hit
  simp only [Option.some.injEq, Prod.mk.injEq] at h
  obtain ⟨rfl, rfl, rfl, rfl, rfl, rfl⟩ := h
  obtain ⟨⟨hd, hfix⟩, c, rfl, hhp, hi, hf⟩ := hr
  have hops' : ops = #[o0, o1] := Array.toList_inj.1 hops
  subst hops'
  have hval := relV_val (a := c0) hf (.tmp sl)
  simp only [valF, hit, Act.eval] at hval
  have hrep := hval
  simp only [RelV] at hrep
  obtain ⟨base, cap, hv, hcap, hz, _⟩ := hrep
  have hnfx : ∀ t v, E.fx t v → t ≠ a2 ∧ t ≠ b1 := by
    intro t v ht
    have := hfx t v ht
    simp only [tdst, List.all_cons, idst, cdst, Bool.and_eq_true] at this
    have h2 := this.1
    simp [d0, d1] at h2
    exact ⟨fun e => h2.1 e.symm, fun e => h2.2 e.symm⟩
  have hsz : a2 < c0.tmps.size := by
    have h1 : c0.tmps.size = st.fr.length := by rw [← hf.length]; simp
    rw [h1]
    exact hal
  have hreg : (Code.region rid #[o0, o1] false).wp P (fun e' a' w' => e' = .normal ∧ ((n1 = 0 ∧ SRel E (nilSt st a2 b1 (.p (.sl sz n1 f1)) true) a' w') ∨ SRel E (nilSt st a2 b1 (.p (.sl sz n1 f1)) false) a' w')) c0 c.w := by
    refine wp_region ?_
    show wpOps P #[o0, o1] _ [0, 1] c0 c.w
    have e0 : execOp c0.eval o0 = pure (.value (c0.tmps.getD sl undef)) := by unfold execOp; rw [p0]; rfl
    have e1 : ∀ a'' : Act, execOp a''.eval o1 = vN (do eqGuard .eql t1 (.tmp a2) (.const (.slice none 0 0)) (a''.tmps.getD a2 undef) (.slice none 0 0); binOp .eql t1 (a''.tmps.getD a2 undef) (.slice none 0 0)) := fun a'' => by unfold execOp; rw [p1]; rfl
    have hg0 : ∀ y, Region.wanted o0 y = true := fun y => by simp [Region.wanted, g0]
    have hg1 : ∀ y, Region.wanted o1 y = true := fun y => by simp [Region.wanted, g1]
    simp only [wpOps, List.getElem?_toArray, List.getElem?_cons_zero, hg0, if_true]
    left
    unfold Oper.wp
    rw [e0]
    simp only [Sem.run_pure, Oper.upon_value, List.getElem?_cons_succ, List.getElem?_cons_zero, hg1, if_true, d0]
    left
    have hput : (c0.put (some a2) (c0.tmps.getD sl undef)).tmps.getD a2 undef = .slice base n1 cap := by
      rw [← hv]
      simp [Act.put, Array.getD_eq_getD_getElem?, hsz]
    rw [e1, vN, Sem.run_bind, hput, eqGuard_at_slice]
    have hrun : (do (pure () : Sem Unit); binOp .eql t1 (.slice base n1 cap) (.slice none 0 0) : Sem Value).run P c.w = .ok (.bool base.isNone) c.w := by
      have h1 : (Op.equal t1 (.slice base n1 cap) (.slice none 0 0)).run P c.w = .ok base.isNone c.w := eq_slice_nil 9999 ht
      simp only [binOp]
      simp [h1]
    simp only [Sem.run_bind, Sem.run_pure, Result.andThen_ok, hrun, Oper.upon_value, d1]
    refine ⟨trivial, ?_⟩
    have hfin : ∀ bv : Bool, base.isNone = bv → SRel E (nilSt st a2 b1 (.p (.sl sz n1 f1)) bv) ((c0.put (some a2) (c0.tmps.getD sl undef)).put (some b1) (.bool base.isNone)) c.w := by
      rintro bv rfl
      refine ⟨⟨hd, fun t v ht => ?_⟩, c, rfl, hhp, hi, ?_⟩
      · obtain ⟨h1, h2⟩ := hnfx t v ht
        have := hfix t v ht
        simp only [Act.put, Array.getD_eq_getD_getElem?]
        rw [Array.getElem?_setIfInBounds_ne (Ne.symm h2), Array.getElem?_setIfInBounds_ne (Ne.symm h1), ← Array.getD_eq_getD_getElem?]
        exact this
      · show RelVs c ((st.fr.set a2 (.p (.sl sz n1 f1))).set b1 (.p (.bool base.isNone))) _
        simp only [Act.put, Array.toList_setIfInBounds]
        exact RelVs.set (by simp [RelV, Rep]) (RelVs.set hval hf a2) b1
    cases base with
    | none =>
      have h0 := hz rfl
      exact .inl ⟨by omega, hfin true rfl⟩
    | some q => exact .inr (hfin false rfl)
  obtain ⟨e', a', w', ⟨rfl, hq⟩, harr⟩ := hreg f k' cs
  exact ⟨a', w', harr, hq⟩
inductive RunN (P : Program) (fn : Func) : List Item → St → FV → List Ob → Prop
  | out {todo : List Item} {st : St} {r : FV} {H : List Ob} (h : RunC P fn todo st r H) : RunN P fn todo st r H
  | step {todo todo' : List Item} {st st' : St} {r : FV} {H : List Ob} {obs : List Prop} (hs : List (Nat × Hn)) (h : stepF P hs todo st = some (todo', st', obs)) (hob : ∀ q ∈ obs, q) (k : RunN P fn todo' st' r H) : RunN P fn todo st r H
  | conv {todo : List Item} {st st' : St} {r : FV} {H : List Ob} (h : StLe st st') (k : RunN P fn todo st' r H) : RunN P fn todo st r H
  | nxt {todo k : List Item} {st : St} {r : FV} {H : List Ob} {a b id m n : Nat} {seen : List Nat} {es : List (PV × PV)} (h : nxtF todo st = some (k, a, b, id, m, n, seen, es)) (hn : n = es.length)
      (each : ∀ i, i < n → i ∉ seen → RunN P fn k (nxtSt st a b true (st.hp.set id (.reg (.iter m n (seen ++ [i]) (some i))))) r H)
      (over : (∀ i, i < n → i ∈ seen) → RunN P fn k (nxtSt st a b false st.hp) r H) : RunN P fn todo st r H
  | nilq {todo k : List Item} {st : St} {r : FV} {H : List Ob} {a b n : Nat} {t e : TypeId} {x : FV} (h : nilF todo st = some (k, a, b, t, x, n)) (ht : P.underlying t = some (.slice e)) (yes : n = 0 → RunN P fn k (nilSt st a b x true) r H) (no : RunN P fn k (nilSt st a b x false) r H) : RunN P fn todo st r H
theorem nilF_dst {t : Tmp} {todo k : List Item} {st : St} {x : Nat × Nat × TypeId × FV × Nat} (h : nilF todo st = some (k, x)) (hd : tdst t todo = true) : tdst t k = true := by
  unfold nilF at h
  split at h
  case h_2 => cases h
  rename_i rid ops k'
  split at h
  case h_2 => cases h
  split at h
  case h_2 => cases h
  split at h
  case isFalse => cases h
  split at h
  case h_2 => cases h
  simp only [Option.some.injEq, Prod.mk.injEq] at h
  obtain ⟨rfl, _⟩ := h
  simp only [tdst, List.all_cons, Bool.and_eq_true] at hd
  exact hd.2
theorem nxtF_dst {t : Tmp} {todo k : List Item} {st : St} {x : Nat × Nat × Nat × Nat × Nat × List Nat × List (PV × PV)} (h : nxtF todo st = some (k, x)) (hd : tdst t todo = true) : tdst t k = true := by
  unfold nxtF at h
  split at h
  case h_2 => cases h
  rename_i rid ops k'
  split at h
  case h_2 => cases h
  split at h
  case h_2 => cases h
  split at h
  case isFalse => cases h
  split at h
  case h_2 => cases h
  split at h
  case h_2 => cases h
  split at h
  case isFalse => cases h
  split at h
  case h_2 => cases h
  simp only [Option.some.injEq, Prod.mk.injEq] at h
  obtain ⟨rfl, _⟩ := h
  simp only [tdst, List.all_cons, Bool.and_eq_true] at hd
  exact hd.2
theorem RunN.sound {P : Program} (hmix : P.follows .mixedOrders = true) {f : FuncId} {fn : Func} (hfn : P.funcs[f]? = some fn) {todo : List Item} {st : St} {r : FV} {H : List Ob} (h : RunN P fn todo st r H) :
    ∀ (E : En) (a : Act) (w : World) (b : Frame) (cs : List Frame), b.fn = f → b.kind = .normal → (∀ t v, E.fx t v → tdst t todo = true) → SRel E st a w → ∃ v w' fr, Steps P (lone (b.at a todo) cs w) (lone fr cs w') ∧ fr.fn = f ∧ fr.leaving P w' (.returned v) ∧ ∃ F' κ', Inv E ⟨F', w', κ', H⟩ ∧ RelV ⟨F', w', κ', H⟩ r v := by
  induction h with
  | out h =>
    intro E a w b cs hb hk hfx hrel
    obtain ⟨r0, H0, h1, r1, H1, hp, h2⟩ := h
    obtain ⟨v, w', fr, g1, g2, g3, F', κ', hI, hR⟩ := h1.sound hmix hfn E a w b cs hb hk hfx hrel
    obtain ⟨F1, hI1, hR1⟩ := plainT_ok hp hI hR
    obtain ⟨F2, κ2, h3, h4⟩ := closeR_ok h2 hI1 hR1
    exact ⟨v, w', fr, g1, g2, g3, F2, κ2, h3, h4⟩
  | step hs h hob k ih =>
    intro E a w b cs hb hk hfx hrel
    obtain ⟨a', w', hrel', hst⟩ := stepF_ok hmix h hob hfx hrel b cs
    obtain ⟨v, w2, fr, h1, h2⟩ := ih E a' w' b cs hb hk (fun t v ht => stepF_dst h (hfx t v ht)) hrel'
    exact ⟨v, w2, fr, hst.trans h1, h2⟩
  | conv h k ih =>
    intro E a w b cs hb hk hfx hrel
    exact ih E a w b cs hb hk hfx (h E a w hrel)
  | nxt h hn each over ih1 ih2 =>
    intro E a0 w b cs hb hk hfx hrel
    obtain ⟨a', w', hst, hor⟩ := nxt_ok h hn hfx hrel b cs
    have hd : ∀ t v, E.fx t v → tdst t _ = true := fun t v ht => nxtF_dst h (hfx t v ht)
    rcases hor with ⟨i, hi, hs, hr⟩ | ⟨hall, hr⟩
    · obtain ⟨v, w2, fr, h1, h2⟩ := ih1 i hi hs E a' w' b cs hb hk hd hr
      exact ⟨v, w2, fr, hst.trans h1, h2⟩
    · obtain ⟨v, w2, fr, h1, h2⟩ := ih2 hall E a' w' b cs hb hk hd hr
      exact ⟨v, w2, fr, hst.trans h1, h2⟩
  | nilq h ht yes no ih1 ih2 =>
    intro E a0 w b cs hb hk hfx hrel
    obtain ⟨a', w', hst, hor⟩ := nil_ok h ht hfx hrel b cs
    have hd : ∀ t v, E.fx t v → tdst t _ = true := fun t v ht => nilF_dst h (hfx t v ht)
    rcases hor with ⟨h0, hr⟩ | hr
    · obtain ⟨v, w2, fr, h1, h2⟩ := ih1 h0 E a' w' b cs hb hk hd hr
      exact ⟨v, w2, fr, hst.trans h1, h2⟩
    · obtain ⟨v, w2, fr, h1, h2⟩ := ih2 E a' w' b cs hb hk hd hr
      exact ⟨v, w2, fr, hst.trans h1, h2⟩
theorem stepsF_runN {P : Program} {fn : Func} {r : FV} {H : List Ob} : ∀ (n : Nat) (todo todo' : List Item) (st st' : St) (obs obs' : List Prop), stepsF P n todo st obs = some (todo', st', obs') → (∀ q ∈ obs', q) → RunN P fn todo' st' r H → RunN P fn todo st r H ∧ ∀ q ∈ obs, q
  | 0, todo, todo', st, st', obs, obs', h, hob, k => by
    simp only [stepsF, Option.some.injEq, Prod.mk.injEq] at h
    obtain ⟨rfl, rfl, rfl⟩ := h
    exact ⟨k, hob⟩
  | n + 1, todo, todo', st, st', obs, obs', h, hob, k => by
    simp only [stepsF] at h
    split at h
    case h_2 => cases h
    rename_i t1 s1 o hs
    obtain ⟨h1, h2⟩ := stepsF_runN n t1 todo' s1 st' (obs ++ o) obs' h hob k
    exact ⟨.step [] hs (fun q hq => h2 q (by simp [hq])) h1, fun q hq => h2 q (by simp [hq])⟩
theorem exec_runN {P : Program} {fn : Func} {r : FV} {H : List Ob} : ∀ (ays : List Ac) (todo todo' : List Item) (st st' : St) (obs obs' : List Prop), exec P ays todo st obs = some (todo', st', obs') → (∀ q ∈ obs', q) → RunN P fn todo' st' r H → RunN P fn todo st r H ∧ ∀ q ∈ obs, q
  | [], todo, todo', st, st', obs, obs', h, hob, k => by
    simp only [exec, Option.some.injEq, Prod.mk.injEq] at h
    obtain ⟨rfl, rfl, rfl⟩ := h
    exact ⟨k, hob⟩
  | .n m :: ays, todo, todo', st, st', obs, obs', h, hob, k => by
    simp only [exec] at h
    split at h
    case h_2 => cases h
    rename_i t1 s1 o hs
    obtain ⟨h1, h2⟩ := exec_runN ays t1 todo' s1 st' o obs' h hob k
    exact stepsF_runN m todo t1 st s1 obs o hs h2 h1
  | .r hs :: ays, todo, todo', st, st', obs, obs', h, hob, k => by
    simp only [exec] at h
    split at h
    case h_2 => cases h
    rename_i t1 s1 o hst
    obtain ⟨h1, h2⟩ := exec_runN ays t1 todo' s1 st' (obs ++ o) obs' h hob k
    exact ⟨.step hs hst (fun q hq => h2 q (by simp [hq])) h1, fun q hq => h2 q (by simp [hq])⟩
  | .k keep :: ays, todo, todo', st, st', obs, obs', h, hob, k => by
    simp only [exec] at h
    obtain ⟨h1, h2⟩ := exec_runN ays todo todo' (canon keep st) st' obs obs' h hob k
    exact ⟨.conv (canon_ok keep st) h1, h2⟩
  | .f t :: ays, todo, todo', st, st', obs, obs', h, hob, k => by
    simp only [exec] at h
    obtain ⟨h1, h2⟩ := exec_runN ays todo todo' (freezeAt t st) st' obs obs' h hob k
    exact ⟨.conv (freezeAt_ok t st) h1, h2⟩
theorem RunN.go {P : Program} {fn : Func} {r : FV} {H : List Ob} {todo todo' : List Item} {st st' : St} (ays : List Ac) (h : endF P ays todo st = some (todo', st')) (hob : Obs (obsF P ays todo st)) (k : RunN P fn todo' st' r H) : RunN P fn todo st r H := by
  unfold endF at h
  replace hob := hob.h
  unfold obsF at hob
  cases he : exec P ays todo st [] with
  | none => simp [he] at h
  | some x =>
    simp only [he, Option.some.injEq, Prod.mk.injEq] at h hob
    obtain ⟨rfl, rfl⟩ := h
    exact (exec_runN ays todo _ st _ [] _ he hob.all k).1
theorem spec_ofN {P : Program} (hmix : P.follows .mixedOrders = true) {f : FuncId} {fn : Func} (hfn : P.funcs[f]? = some fn) {body : Code} (hb : fn.body = some body) {args : List FV} {r : FV} {H : List Ob} {todo : List Item} {st : St}
    (ht : ([.code body], (⟨args ++ List.replicate (fn.ntmps - args.length) .u, []⟩ : St)) = (todo, st)) (h : RunN P fn todo st r H) : Spec P f args r H := by
  simp only [Prod.mk.injEq] at ht
  obtain ⟨rfl, rfl⟩ := ht
  intro w F κ vs hF hv cs
  have hlen := hv.length
  have hlen' : vs.size = args.length := by simpa using hlen
  let b : Frame := { (default : Frame) with fn := f, kind := .normal }
  have henter : Frame.enter P f vs .normal = b.at { tmps := vs ++ Array.replicate (fn.ntmps - vs.size) undef, defers := [] } [.code body] := by
    simp [Frame.enter, Frame.at, hfn, hb, b]
  have hinv : Inv ⟨w, F, fun _ => False, fun _ _ => False⟩ ⟨F, w, κ, []⟩ := ⟨Chg.refl _ _, fun _ h => h, fun b h => .inl h, hF, fun id => by simp [look, RelO], fun i j b h => by simp [look, Ob.mut] at h, fun i b h => by simp [look, Ob.mut] at h⟩
  obtain ⟨v, w', fr, h1, h2, h3, F', κ', h4, h5⟩ := h.sound hmix hfn ⟨w, F, fun _ => False, fun _ _ => False⟩ { tmps := vs ++ Array.replicate (fn.ntmps - vs.size) undef, defers := [] } w b cs rfl rfl (fun _ _ h => h.elim)
    ⟨⟨rfl, fun _ _ h => h.elim⟩, ⟨F, w, κ, []⟩, rfl, rfl, hinv, by
      simp only [Array.toList_append, Array.toList_replicate, hlen']
      refine hv.append ?_
      refine RelVs.of_get (by simp) fun i u _ hi => by simp [RelV]⟩
  refine ⟨.returned v, w', fr, ⟨v, F', κ', rfl, h4, h5⟩, ?_, h2, h3⟩
  rw [henter]
  exact h1
end Go.Proofs.YtjhnpaenhdbhpacV
set_option linter.unusedVariables false
set_option linter.unusedSimpArgs false
set_option linter.constructorNameAsVariable false
namespace Go.Proofs.YtjhnpaenhdbhpacV
open Go Go.RowKit
def pvI (k : IntKind) (x : Int) : PV := .one (.int k x)
def pvB (x : Bool) : PV := .one (.bool x)
def pvS (x : ByteArray) : PV := .one (.str x)
def pvT {α : Type} (c : α → List AV) (x : α) : PV := .many (c x)
def mE {K V : Type} (p : K → PV) (q : V → PV) (m : List (K × V)) : List (PV × PV) := m.map fun e => (p e.1, q e.2)
noncomputable def getM {K V : Type} : List (K × V) → K → V → V
  | [], _, z => z
  | e :: m, k, z => @ite _ (e.1 = k) (Classical.propDecidable _) e.2 (getM m k z)
noncomputable def putM {K V : Type} : List (K × V) → K → V → List (K × V)
  | [], k, x => [(k, x)]
  | e :: m, k, x => @ite _ (e.1 = k) (Classical.propDecidable _) ((k, x) :: m) (e :: putM m k x)
def Inj {K : Type} (p : K → PV) : Prop := ∀ a b, sameP (p a) (p b) = true ↔ a = b
theorem inj_S : Inj pvS := fun a b => by
  simp only [pvS, sameP, sameA, beq_iff_eq]
  constructor
  · intro h
    cases a; cases b
    simp_all
  · rintro rfl; rfl
theorem look_get {K V : Type} {p : K → PV} {q : V → PV} (h : Inj p) (k : K) (z : V) : ∀ m : List (K × V), lookR (mE p q m) (p k) (q z).fv = (q (getM m k z)).fv
  | [] => rfl
  | e :: m => by
    have ih := look_get (q := q) h k z m
    simp only [mE, List.map_cons, lookR, getM] at ih ⊢
    by_cases he : e.1 = k
    · rw [if_pos ((h k e.1).2 he.symm), if_pos he]
    · rw [if_neg (fun hh => he ((h k e.1).1 hh).symm), if_neg he]
      exact ih
theorem put_put {K V : Type} {p : K → PV} {q : V → PV} (h : Inj p) (k : K) (x : V) : ∀ m : List (K × V), putR (mE p q m) (p k) (q x) = mE p q (putM m k x)
  | [] => rfl
  | e :: m => by
    have ih := put_put (q := q) h k x m
    simp only [mE, List.map_cons, putR, putM] at ih ⊢
    by_cases he : e.1 = k
    · rw [if_pos ((h k e.1).2 he.symm), if_pos he]; rfl
    · rw [if_neg (fun hh => he ((h k e.1).1 hh).symm), if_neg he, ih]; rfl
theorem keys_mE {P : Program} {kt : TypeId} {K V : Type} {p : K → PV} {q : V → PV} (h : ∀ k, keyOK P kt (p k) = true) (k : K) (m : List (K × V)) : keysOK P kt (p k) (mE p q m) :=
  ⟨h k, fun e he => by obtain ⟨x, _, rfl⟩ := List.mem_map.1 he; exact h x.1⟩
theorem le_get {P : Program} {kt : TypeId} {K V : Type} {p : K → PV} {q : V → PV} (h : Inj p) (hk : ∀ k, keyOK P kt (p k) = true) (k : K) (z : V) (m : List (K × V)) : keysOK P kt (p k) (mE p q m) ∧ FVLe (lookR (mE p q m) (p k) (q z).fv) (q (getM m k z)).fv :=
  ⟨keys_mE hk k m, fun c v r => by rw [look_get h] at r; exact r⟩
theorem le_put {P : Program} {kt : TypeId} {K V : Type} {p : K → PV} {q : V → PV} (h : Inj p) (hk : ∀ k, keyOK P kt (p k) = true) (k : K) (x : V) (m : List (K × V)) : keysOK P kt (p k) (mE p q m) ∧ putR (mE p q m) (p k) (q x) = mE p q (putM m k x) :=
  ⟨keys_mE hk k m, put_put h k x m⟩
theorem le_mnil {K V : Type} (p : K → PV) (q : V → PV) : ([] : List (PV × PV)) = mE p q [] := rfl
theorem len_mE {K V : Type} {p : K → PV} {q : V → PV} (m : List (K × V)) : (mE p q m).length = m.length := by simp [mE]
theorem le_ent {K V : Type} {p : K → PV} {q : V → PV} (m : List (K × V)) (i : Nat) (d : K × V) (hi : i < m.length) :
    (i < (mE p q m).length ∧ (mE p q m).length = (mE p q m).length) ∧ FVLe (.tup [((mE p q m).getD i (.one .u, .one .u)).1.fv, ((mE p q m).getD i (.one .u, .one .u)).2.fv]) (.tup [(p (m.getD i d).1).fv, (q (m.getD i d).2).fv]) :=
  ⟨⟨by rw [len_mE]; exact hi, rfl⟩, fun c v r => by simpa [mE, List.getD_eq_getElem?_getD, hi] using r⟩
theorem av_str (s : ByteArray) : AVLe (.sl 1 s.size (fun i _ => .int .u8 ((s.data.toList.map fun b => (b.toNat : Int)).getD i 0))) (eL 1 (cI .u8) (0 : Int) (strL s)) := fun F w v h => by
  have hl : (strL s).length = s.size := by simp [strL]
  unfold eL
  rw [hl]
  obtain ⟨base, cap, h1, h2, h3, h4⟩ := h
  refine ⟨base, cap, h1, h2, h3, h4.imp id ?_⟩
  rintro ⟨b, o, h5, h6, h7⟩
  refine ⟨b, o, h5, h6, fun i hi j hj => ?_⟩
  obtain ⟨x, h8, h9⟩ := h7 i hi j hj
  refine ⟨x, h8, ?_⟩
  have : j = 0 := by omega
  subst this
  exact h9
theorem strA_L (l : List Int) : strA l.length (fun i j => ((cI .u8) (l.getD i 0)).getD j .u) = byteL l := by
  unfold strA
  congr 1
  apply List.ext_getElem?
  intro i
  by_cases hi : i < l.length
  · simp [hi, cI, numA]
  · simp [hi]
theorem av_bytes (l : List Int) : (∀ i, i < l.length → ((cI .u8) (l.getD i (0 : Int))).getD 0 .u = .int .u8 (numA (((cI .u8) (l.getD i (0 : Int))).getD 0 .u))) ∧ AVLe (.str (strA l.length (fun i j => ((cI .u8) (l.getD i (0 : Int))).getD j .u))) (.str (byteL l)) :=
  ⟨fun i _ => rfl, fun F w v h => by rw [strA_L] at h; exact h⟩
end Go.Proofs.YtjhnpaenhdbhpacV
set_option linter.unusedVariables false
set_option linter.unusedSimpArgs false
set_option linter.constructorNameAsVariable false
namespace Go.Proofs.YtjhnpaenhdbhpacV
open Go Go.RowKit
def remI (n : Nat) (seen : List Nat) : List Nat := (List.range n).filter fun i => decide (i ∉ seen)
def pickI (n : Nat) (seen : List Nat) (j : Nat) : Nat := (remI n seen).getD (j % (remI n seen).length) 0
def nxtW {α : Type} (n : Nat) (seen : List Nat) (ord : List Nat) (A : List Nat → Option α) (B : List Nat → Nat → Option α) : Option α := if remI n seen = [] then A ord else B ord.tail (pickI n seen (ord.headD 0))
theorem mem_remI {n i : Nat} {seen : List Nat} : i ∈ remI n seen ↔ i < n ∧ i ∉ seen := by simp [remI]
theorem nxtW_each {α : Type} {n : Nat} {seen : List Nat} {A : List Nat → Option α} {B : List Nat → Nat → Option α} {r : α} (h : ∀ ord, nxtW n seen ord A B = some r) {i : Nat} (hi : i < n) (hs : i ∉ seen) : ∀ ord, B ord i = some r := by
  intro ord
  have hm : i ∈ remI n seen := mem_remI.2 ⟨hi, hs⟩
  obtain ⟨j, hj, e⟩ := List.mem_iff_getElem.1 hm
  have h1 := h (j :: ord)
  unfold nxtW at h1
  rw [if_neg (by intro q; rw [q] at hm; cases hm)] at h1
  have hp : pickI n seen ((j :: ord).headD 0) = i := by
    unfold pickI
    rw [List.headD_cons, Nat.mod_eq_of_lt hj]
    simp [hj, e]
  rw [hp] at h1
  exact h1
theorem nxtW_over {α : Type} {n : Nat} {seen : List Nat} {A : List Nat → Option α} {B : List Nat → Nat → Option α} {r : α} (h : ∀ ord, nxtW n seen ord A B = some r) (hall : ∀ i, i < n → i ∈ seen) : ∀ ord, A ord = some r := by
  intro ord
  have h1 := h ord
  unfold nxtW at h1
  rw [if_pos] at h1
  · exact h1
  · cases hr : remI n seen with
    | nil => rfl
    | cons x l =>
      have : x ∈ remI n seen := by rw [hr]; exact List.mem_cons_self ..
      have := mem_remI.1 this
      exact absurd (hall x this.1) this.2
theorem nxtW_mono {α : Type} {n : Nat} {seen ord : List Nat} {A A' : List Nat → Option α} {B B' : List Nat → Nat → Option α} {r : α} (hA : ∀ ord, A ord = some r → A' ord = some r) (hB : ∀ ord i, B ord i = some r → B' ord i = some r) (h : nxtW n seen ord A B = some r) : nxtW n seen ord A' B' = some r := by
  unfold nxtW at h ⊢
  split at h
  · rename_i e; rw [if_pos e]; exact hA _ h
  · rename_i e; rw [if_neg e]; exact hB _ _ h
theorem iteW_or {α : Type} {c : Prop} [Decidable c] {x y : List Nat → Option α} {r : α} (h : ∀ ord, (if c then x ord else y ord) = some r) : (c ∧ ∀ ord, x ord = some r) ∨ (¬ c ∧ ∀ ord, y ord = some r) := by
  by_cases hc : c
  · exact .inl ⟨hc, fun ord => by have := h ord; rwa [if_pos hc] at this⟩
  · exact .inr ⟨hc, fun ord => by have := h ord; rwa [if_neg hc] at this⟩
theorem iteW_some {α : Type} {c : Prop} [Decidable c] {x : List Nat → Option α} {r : α} (h : ∀ ord, (if c then x ord else none) = some r) : c ∧ ∀ ord, x ord = some r := by
  rcases iteW_or h with h | ⟨_, h⟩
  · exact h
  · cases h []
theorem bindW_or {α β : Type} {f : Option β} {g : List Nat → β → Option α} {r : α} (h : ∀ ord, f.bind (g ord) = some r) : ∃ y, f = some y ∧ ∀ ord, g ord y = some r := by
  cases f with
  | none => cases h []
  | some y => exact ⟨y, rfl, h⟩
noncomputable def allW {α : Type} (g : List Nat → Option α) : Option α := @dite _ (∃ r, ∀ ord, g ord = some r) (Classical.propDecidable _) (fun h => some h.choose) (fun _ => none)
theorem allW_spec {α : Type} {g : List Nat → Option α} {r : α} (h : allW g = some r) : ∀ ord, g ord = some r := by
  unfold allW at h
  split at h
  · rename_i e
    obtain rfl := Option.some.inj h
    exact e.choose_spec
  · cases h
theorem allW_of {α : Type} {g : List Nat → Option α} {r : α} (h : ∀ ord, g ord = some r) : allW g = some r := by
  have e : ∃ r, ∀ ord, g ord = some r := ⟨r, h⟩
  unfold allW
  rw [dif_pos e]
  have := e.choose_spec []
  rw [h []] at this
  exact this.symm
theorem allW_mono {α : Type} {f g : List Nat → Option α} {r : α} (hm : ∀ ord r, f ord = some r → g ord = some r) (h : allW f = some r) : allW g = some r := allW_of fun ord => hm ord r (allW_spec h ord)
def nilW {α β : Type} (l : List β) (ord : List Nat) (A B : List Nat → Option α) : Option α := if l.isEmpty && ord.headD 0 == 0 then A ord.tail else B ord.tail
theorem nilW_yes {α β : Type} {l : List β} {A B : List Nat → Option α} {r : α} (h : ∀ ord, nilW l ord A B = some r) (h0 : l.length = 0) : ∀ ord, A ord = some r := by
  intro ord
  have h1 := h (0 :: ord)
  have : l = [] := List.length_eq_zero_iff.1 h0
  subst this
  exact h1
theorem nilW_no {α β : Type} {l : List β} {A B : List Nat → Option α} {r : α} (h : ∀ ord, nilW l ord A B = some r) : ∀ ord, B ord = some r := by
  intro ord
  have h1 := h (1 :: ord)
  unfold nilW at h1
  rw [if_neg (by simp)] at h1
  exact h1
theorem nilW_mono {α β : Type} {l : List β} {ord : List Nat} {A A' B B' : List Nat → Option α} {r : α} (hA : ∀ ord, A ord = some r → A' ord = some r) (hB : ∀ ord, B ord = some r → B' ord = some r) (h : nilW l ord A B = some r) : nilW l ord A' B' = some r := by
  unfold nilW at h ⊢
  split at h
  · rename_i e; rw [if_pos e]; exact hA _ h
  · rename_i e; rw [if_neg e]; exact hB _ h
end Go.Proofs.YtjhnpaenhdbhpacV
set_option linter.unusedVariables false
set_option linter.unusedSimpArgs false
set_option maxRecDepth 100000
namespace Go.Proofs.YtjhnpaenhdbhpacV
open Go Go.RowKit
theorem mix : Try.prog.follows .mixedOrders = true := by kernel_rfl
structure TValue where
  f0 : Int
  f1 : Int
  f2 : ByteArray
def dValue : TValue := ⟨(0 : Int), (0 : Int), (⟨#[]⟩ : ByteArray)⟩
def cValue (x : TValue) : List AV := [.int .i64 x.f0, .int .i64 x.f1, .str x.f2]
theorem inj_Value : Inj (pvT cValue) := fun a b => by
  constructor
  · intro h
    have h' : ((decide (IntKind.i64 = IntKind.i64) && (a.f0 == b.f0)) && ((decide (IntKind.i64 = IntKind.i64) && (a.f1 == b.f1)) && ((a.f2.data.toList == b.f2.data.toList) && true))) = true := h
    simp only [Bool.and_eq_true, beq_iff_eq, and_true] at h'
    obtain ⟨a0, a1, a2⟩ := a
    obtain ⟨b0, b1, b2⟩ := b
    simp_all [ByteArray.ext_iff]
  · rintro rfl
    show ((decide (IntKind.i64 = IntKind.i64) && (a.f0 == a.f0)) && ((decide (IntKind.i64 = IntKind.i64) && (a.f1 == a.f1)) && ((a.f2.data.toList == a.f2.data.toList) && true))) = true
    simp
structure TEntry where
  f0 : (List TValue)
  f1 : Int
def dEntry : TEntry := ⟨([] : List TValue), (0 : Int)⟩
def cEntry (x : TEntry) : List AV := [(eL 3 cValue dValue x.f0), .int .i64 x.f1]
structure TCache where
  f0 : ByteArray
  f1 : ByteArray
  f2 : Int
  f3 : Int
def cCache (x : TCache) : List AV := [.str x.f0, .str x.f1, .int .i64 x.f2, .int .i64 x.f3]
structure T25 where
  f0 : (List TEntry)
  f1 : (List TEntry)
def c25 (x : T25) : List AV := [(eL 2 cEntry dEntry x.f0), (eL 2 cEntry dEntry x.f1)]
structure TCached where
  f0 : TValue
  f1 : (List TEntry)
  f2 : Int
def dCached : TCached := ⟨dValue, ([] : List TEntry), (0 : Int)⟩
def cCached (x : TCached) : List AV := [.int .i64 x.f0.f0, .int .i64 x.f0.f1, .str x.f0.f2, (eL 2 cEntry dEntry x.f1), .int .i64 x.f2]
end Go.Proofs.YtjhnpaenhdbhpacV
set_option linter.unusedVariables false
set_option linter.unusedSimpArgs false
set_option maxRecDepth 100000
namespace Go.Proofs.YtjhnpaenhdbhpacV
open Go Go.RowKit
noncomputable def value_inRange  (k : Nat) (n0 : Int) : Option Bool := if (decide (n0 ≥ (-4294967296))) = true then (some (decide (n0 ≤ 4294967296))) else (some false)
noncomputable def value_inRange.t : List Item := [.code (bodyOf Try.f61)]
noncomputable def value_inRange.s (n0 : Int) : St := ⟨frOf Try.f61.ntmps 0 [(0, .p (.int .i64 n0))], []⟩
theorem value_inRange.run   {k : Nat} {n0 : Int} {r : Bool} (h : value_inRange k n0 = some r) : RunC Try.prog Try.f61 value_inRange.t (value_inRange.s n0) (.p (.bool r)) [] := by
  unfold value_inRange at h
  rcases ite_or h with ⟨g_1, h⟩ | ⟨g_1, h⟩
  · obtain rfl := Option.some.inj h
    exact RunC.out [.n 3, .r [(2, .dec true)]] (by kernel_rfl) (Obs.of (by kernel_rfl) g_1)
  · obtain rfl := Option.some.inj h
    exact RunC.out [.n 3, .r [(2, .dec false)]] (by kernel_rfl) (Obs.of (by kernel_rfl) (nt g_1))
theorem value_inRange.mono   : ∀ (k k' : Nat) (n0 : Int) (r : Bool), k ≤ k' → value_inRange k n0 = some r → value_inRange k' n0 = some r := by
  intro k k' n0 r hk h
  unfold value_inRange at h ⊢
  rcases ite_or h with ⟨g_1, h⟩ | ⟨g_1, h⟩
  · refine itp g_1 ?_
    exact h
  · refine itn g_1 ?_
    exact h
theorem value_inRange.spec {k : Nat} {n0 : Int} {r : Bool} (h : value_inRange k n0 = some r) : Spec Try.prog 61 [.p (.int .i64 n0)] (.p (.bool r)) [] :=
  spec_of mix Try.func61 (body := bodyOf Try.f61) (by kernel_rfl) (by kernel_rfl) (value_inRange.run h)
end Go.Proofs.YtjhnpaenhdbhpacV
set_option linter.unusedVariables false
set_option linter.unusedSimpArgs false
set_option maxRecDepth 100000
namespace Go.Proofs.YtjhnpaenhdbhpacV
open Go Go.RowKit
noncomputable def value_Valid  (k : Nat) (v0 : TValue) : Option Bool := if (v0.f0 == 0) = true then (if (v0.f1 == 0) = true then (some (v0.f2.data.toList == (⟨#[]⟩ : ByteArray).data.toList)) else (some false)) else (if (v0.f0 == 1) = true then ((value_inRange k v0.f1).bind fun y_4 => (if y_4 = true then (some (v0.f2.data.toList == (⟨#[]⟩ : ByteArray).data.toList)) else (some false))) else (if (v0.f0 == 2) = true then (if (v0.f1 == 0) = true then (some (decide ((v0.f2.size : Int) ≤ 32))) else (some false)) else (some false)))
noncomputable def value_Valid.t : List Item := [.code (bodyOf Try.f47)]
noncomputable def value_Valid.s (v0 : TValue) : St := ⟨frOf Try.f47.ntmps 0 [(0, .agg ((cValue v0).map .p))], []⟩
theorem value_Valid.run   {k : Nat} {v0 : TValue} {r : Bool} (h : value_Valid k v0 = some r) : RunC Try.prog Try.f47 value_Valid.t (value_Valid.s v0) (.p (.bool r)) [] := by
  unfold value_Valid at h
  rcases ite_or h with ⟨g_1, h⟩ | ⟨g_1, h⟩
  · rcases ite_or h with ⟨g_2, h⟩ | ⟨g_2, h⟩
    · obtain rfl := Option.some.inj h
      exact RunC.out [.n 7, .r [(1, .dec true)], .n 2, .r [(3, .dec true)]] (by kernel_rfl) (Obs.of (by kernel_rfl) (And.intro g_1 g_2))
    · obtain rfl := Option.some.inj h
      exact RunC.out [.n 7, .r [(1, .dec true)], .n 2, .r [(3, .dec false)]] (by kernel_rfl) (Obs.of (by kernel_rfl) (And.intro g_1 (nt g_2)))
  · rcases ite_or h with ⟨g_3, h⟩ | ⟨g_3, h⟩
    · obtain ⟨y_4, e_5, h⟩ := bind_or h
      rcases ite_or h with ⟨g_6, h⟩ | ⟨g_6, h⟩
      · obtain rfl := Option.some.inj h
        exact RunC.out [.n 7, .r [(1, .dec false)], .n 2, .r [(1, .dec true)], .n 2, .r [(2, .call (.p (.bool y_4)) []), (3, .dec true)]] (by kernel_rfl) (Obs.of (by kernel_rfl) (And.intro (nt g_1) (And.intro g_3 (And.intro (value_inRange.spec e_5) g_6))))
      · obtain rfl := Option.some.inj h
        exact RunC.out [.n 7, .r [(1, .dec false)], .n 2, .r [(1, .dec true)], .n 2, .r [(2, .call (.p (.bool y_4)) []), (3, .dec false)]] (by kernel_rfl) (Obs.of (by kernel_rfl) (And.intro (nt g_1) (And.intro g_3 (And.intro (value_inRange.spec e_5) (nt g_6)))))
    · rcases ite_or h with ⟨g_7, h⟩ | ⟨g_7, h⟩
      · rcases ite_or h with ⟨g_8, h⟩ | ⟨g_8, h⟩
        · obtain rfl := Option.some.inj h
          exact RunC.out [.n 7, .r [(1, .dec false)], .n 2, .r [(1, .dec false)], .n 2, .r [(1, .dec true)], .n 2, .r [(3, .dec true)]] (by kernel_rfl) (Obs.of (by kernel_rfl) (And.intro (nt g_1) (And.intro (nt g_3) (And.intro g_7 g_8))))
        · obtain rfl := Option.some.inj h
          exact RunC.out [.n 7, .r [(1, .dec false)], .n 2, .r [(1, .dec false)], .n 2, .r [(1, .dec true)], .n 2, .r [(3, .dec false)]] (by kernel_rfl) (Obs.of (by kernel_rfl) (And.intro (nt g_1) (And.intro (nt g_3) (And.intro g_7 (nt g_8)))))
      · obtain rfl := Option.some.inj h
        exact RunC.out [.n 7, .r [(1, .dec false)], .n 2, .r [(1, .dec false)], .n 2, .r [(1, .dec false)], .n 5] (by kernel_rfl) (Obs.of (by kernel_rfl) (And.intro (nt g_1) (And.intro (nt g_3) (nt g_7))))
theorem value_Valid.mono   : ∀ (k k' : Nat) (v0 : TValue) (r : Bool), k ≤ k' → value_Valid k v0 = some r → value_Valid k' v0 = some r := by
  intro k k' v0 r hk h
  unfold value_Valid at h ⊢
  rcases ite_or h with ⟨g_1, h⟩ | ⟨g_1, h⟩
  · refine itp g_1 ?_
    rcases ite_or h with ⟨g_2, h⟩ | ⟨g_2, h⟩
    · refine itp g_2 ?_
      exact h
    · refine itn g_2 ?_
      exact h
  · refine itn g_1 ?_
    rcases ite_or h with ⟨g_3, h⟩ | ⟨g_3, h⟩
    · refine itp g_3 ?_
      obtain ⟨y_4, e_5, h⟩ := bind_or h
      refine bnd (value_inRange.mono _ _ _ _ hk e_5) ?_
      rcases ite_or h with ⟨g_6, h⟩ | ⟨g_6, h⟩
      · refine itp g_6 ?_
        exact h
      · refine itn g_6 ?_
        exact h
    · refine itn g_3 ?_
      rcases ite_or h with ⟨g_7, h⟩ | ⟨g_7, h⟩
      · refine itp g_7 ?_
        rcases ite_or h with ⟨g_8, h⟩ | ⟨g_8, h⟩
        · refine itp g_8 ?_
          exact h
        · refine itn g_8 ?_
          exact h
      · refine itn g_7 ?_
        exact h
theorem value_Valid.spec {k : Nat} {v0 : TValue} {r : Bool} (h : value_Valid k v0 = some r) : Spec Try.prog 47 [.agg ((cValue v0).map .p)] (.p (.bool r)) [] :=
  spec_of mix Try.func47 (body := bodyOf Try.f47) (by kernel_rfl) (by kernel_rfl) (value_Valid.run h)
end Go.Proofs.YtjhnpaenhdbhpacV
set_option linter.unusedVariables false
set_option linter.unusedSimpArgs false
set_option maxRecDepth 100000
namespace Go.Proofs.YtjhnpaenhdbhpacV
open Go Go.RowKit
noncomputable def value_ValidRow.p1  : Nat → (List TValue) → (List TValue) → Int → Int → Option Bool
  | 0, _, _, _, _ => none
  | k + 1, r0, v5, v6, v7 => if (decide (v7 < v6)) = true then (if 0 ≤ v7 ∧ v7 < ((v5).length : Int) then ((value_Valid k (v5.getD v7.toNat dValue)).bind fun y_3 => (if (!y_3) = true then (some false) else (value_ValidRow.p1 k r0 v5 v6 (IntKind.i64.wrap (v7 + 1))))) else none) else (some (decide (((r0).length : Int) ≤ 16)))
noncomputable def value_ValidRow  (k : Nat) (r0 : (List TValue)) : Option Bool := value_ValidRow.p1 k r0 r0 ((r0).length : Int) 0
noncomputable def value_ValidRow.t : List Item := [.code (bodyOf Try.f57)]
noncomputable def value_ValidRow.s (r0 : (List TValue)) : St := ⟨frOf Try.f57.ntmps 0 [(0, .p (eL 3 cValue dValue r0))], []⟩
noncomputable def value_ValidRow.p1.t : List Item := nav 7 [] value_ValidRow.t
noncomputable def value_ValidRow.p1.s (r0 : (List TValue)) (v5 : (List TValue)) (v6 : Int) (v7 : Int) : St := ⟨frOf Try.f57.ntmps 0 [(0, .p (eL 3 cValue dValue r0)), (5, .p (eL 3 cValue dValue v5)), (6, .p (.int .i64 v6)), (7, .p (.int .i64 v7))], []⟩
theorem value_ValidRow.p1.run   : ∀ (k : Nat) (r0 : (List TValue)) (v5 : (List TValue)) (v6 : Int) (v7 : Int) (r : Bool), value_ValidRow.p1 k r0 v5 v6 v7 = some r → RunC Try.prog Try.f57 value_ValidRow.p1.t (value_ValidRow.p1.s r0 v5 v6 v7) (.p (.bool r)) [] := by
  intro k
  induction k with
  | zero => intro r0 v5 v6 v7 r h; simp [value_ValidRow.p1] at h
  | succ k ih =>
    intro r0 v5 v6 v7 r h
    rw [value_ValidRow.p1] at h
    rcases ite_or h with ⟨g_1, h⟩ | ⟨g_1, h⟩
    · obtain ⟨g_2, h⟩ := ite_some h
      obtain ⟨y_3, e_4, h⟩ := bind_or h
      rcases ite_or h with ⟨g_5, h⟩ | ⟨g_5, h⟩
      · obtain rfl := Option.some.inj h
        exact RunC.out [.n 1, .r [(0, .dec true)], .n 8, .r [(1, .call (.p (.bool y_3)) []), (2, .dec true)], .n 3] (by kernel_rfl) (Obs.of (by kernel_rfl) (And.intro g_1 (And.intro g_2 (And.intro (value_Valid.spec e_4) g_5))))
      · exact RunC.go [.n 1, .r [(0, .dec true)], .n 8, .r [(1, .call (.p (.bool y_3)) []), (2, .dec false)], .n 5, .k [0, 5, 6, 7]] (by kernel_rfl) (Obs.of (by kernel_rfl) (And.intro g_1 (And.intro g_2 (And.intro (value_Valid.spec e_4) (nt g_5))))) (ih _ _ _ _ r h)
    · obtain rfl := Option.some.inj h
      exact RunC.out [.n 1, .r [(0, .dec false)], .n 5] (by kernel_rfl) (Obs.of (by kernel_rfl) (nt g_1))
theorem value_ValidRow.run   {k : Nat} {r0 : (List TValue)} {r : Bool} (h : value_ValidRow k r0 = some r) : RunC Try.prog Try.f57 value_ValidRow.t (value_ValidRow.s r0) (.p (.bool r)) [] := by
  unfold value_ValidRow at h
  exact RunC.go [.n 7, .k [0, 5, 6, 7]] (by kernel_rfl) (Obs.tt (by kernel_rfl)) (value_ValidRow.p1.run k _ _ _ _ r h)
theorem value_ValidRow.p1.mono   : ∀ (k k' : Nat) (r0 : (List TValue)) (v5 : (List TValue)) (v6 : Int) (v7 : Int) (r : Bool), k ≤ k' → value_ValidRow.p1 k r0 v5 v6 v7 = some r → value_ValidRow.p1 k' r0 v5 v6 v7 = some r := by
  intro k
  induction k with
  | zero => intro k' r0 v5 v6 v7 r hk h; simp [value_ValidRow.p1] at h
  | succ k ih =>
    intro k' r0 v5 v6 v7 r hk h
    obtain ⟨k', rfl⟩ : ∃ m, k' = m + 1 := ⟨k' - 1, by omega⟩
    replace hk := Nat.le_of_succ_le_succ hk
    rw [value_ValidRow.p1] at h ⊢
    rcases ite_or h with ⟨g_1, h⟩ | ⟨g_1, h⟩
    · refine itp g_1 ?_
      obtain ⟨g_2, h⟩ := ite_some h
      refine itp g_2 ?_
      obtain ⟨y_3, e_4, h⟩ := bind_or h
      refine bnd (value_Valid.mono _ _ _ _ hk e_4) ?_
      rcases ite_or h with ⟨g_5, h⟩ | ⟨g_5, h⟩
      · refine itp g_5 ?_
        exact h
      · refine itn g_5 ?_
        exact ih _ _ _ _ _ r hk h
    · refine itn g_1 ?_
      exact h
theorem value_ValidRow.mono   : ∀ (k k' : Nat) (r0 : (List TValue)) (r : Bool), k ≤ k' → value_ValidRow k r0 = some r → value_ValidRow k' r0 = some r := by
  intro k k' r0 r hk h
  unfold value_ValidRow at h ⊢
  exact value_ValidRow.p1.mono _ _ _ _ _ _ r hk h
theorem value_ValidRow.spec {k : Nat} {r0 : (List TValue)} {r : Bool} (h : value_ValidRow k r0 = some r) : Spec Try.prog 57 [.p (eL 3 cValue dValue r0)] (.p (.bool r)) [] :=
  spec_of mix Try.func57 (body := bodyOf Try.f57) (by kernel_rfl) (by kernel_rfl) (value_ValidRow.run h)
end Go.Proofs.YtjhnpaenhdbhpacV
set_option linter.unusedVariables false
set_option linter.unusedSimpArgs false
set_option maxRecDepth 100000
namespace Go.Proofs.YtjhnpaenhdbhpacV
open Go Go.RowKit
noncomputable def bag_countFits  (k : Nat) (n0 : Int) : Option Bool := if (decide (n0 ≥ (-262144))) = true then (some (decide (n0 ≤ 262144))) else (some false)
noncomputable def bag_countFits.t : List Item := [.code (bodyOf Try.f44)]
noncomputable def bag_countFits.s (n0 : Int) : St := ⟨frOf Try.f44.ntmps 0 [(0, .p (.int .i64 n0))], []⟩
theorem bag_countFits.run   {k : Nat} {n0 : Int} {r : Bool} (h : bag_countFits k n0 = some r) : RunC Try.prog Try.f44 bag_countFits.t (bag_countFits.s n0) (.p (.bool r)) [] := by
  unfold bag_countFits at h
  rcases ite_or h with ⟨g_1, h⟩ | ⟨g_1, h⟩
  · obtain rfl := Option.some.inj h
    exact RunC.out [.n 3, .r [(2, .dec true)]] (by kernel_rfl) (Obs.of (by kernel_rfl) g_1)
  · obtain rfl := Option.some.inj h
    exact RunC.out [.n 3, .r [(2, .dec false)]] (by kernel_rfl) (Obs.of (by kernel_rfl) (nt g_1))
theorem bag_countFits.mono   : ∀ (k k' : Nat) (n0 : Int) (r : Bool), k ≤ k' → bag_countFits k n0 = some r → bag_countFits k' n0 = some r := by
  intro k k' n0 r hk h
  unfold bag_countFits at h ⊢
  rcases ite_or h with ⟨g_1, h⟩ | ⟨g_1, h⟩
  · refine itp g_1 ?_
    exact h
  · refine itn g_1 ?_
    exact h
theorem bag_countFits.spec {k : Nat} {n0 : Int} {r : Bool} (h : bag_countFits k n0 = some r) : Spec Try.prog 44 [.p (.int .i64 n0)] (.p (.bool r)) [] :=
  spec_of mix Try.func44 (body := bodyOf Try.f44) (by kernel_rfl) (by kernel_rfl) (bag_countFits.run h)
end Go.Proofs.YtjhnpaenhdbhpacV
set_option linter.unusedVariables false
set_option linter.unusedSimpArgs false
set_option maxRecDepth 100000
namespace Go.Proofs.YtjhnpaenhdbhpacV
open Go Go.RowKit
noncomputable def bag_entryFits  (k : Nat) (e0 : TEntry) : Option Bool := (value_ValidRow k e0.f0).bind fun y_1 => (if y_1 = true then ((bag_countFits k e0.f1).bind fun y_4 => (some y_4)) else (some false))
noncomputable def bag_entryFits.t : List Item := [.code (bodyOf Try.f40)]
noncomputable def bag_entryFits.s (e0 : TEntry) : St := ⟨frOf Try.f40.ntmps 0 [(0, .agg ((cEntry e0).map .p))], []⟩
theorem bag_entryFits.run   {k : Nat} {e0 : TEntry} {r : Bool} (h : bag_entryFits k e0 = some r) : RunC Try.prog Try.f40 bag_entryFits.t (bag_entryFits.s e0) (.p (.bool r)) [] := by
  unfold bag_entryFits at h
  obtain ⟨y_1, e_2, h⟩ := bind_or h
  rcases ite_or h with ⟨g_3, h⟩ | ⟨g_3, h⟩
  · obtain ⟨y_4, e_5, h⟩ := bind_or h
    obtain rfl := Option.some.inj h
    exact RunC.out [.n 3, .r [(2, .call (.p (.bool y_1)) []), (3, .dec true), (6, .call (.p (.bool y_4)) [])]] (by kernel_rfl) (Obs.of (by kernel_rfl) (And.intro (value_ValidRow.spec e_2) (And.intro g_3 (bag_countFits.spec e_5))))
  · obtain rfl := Option.some.inj h
    exact RunC.out [.n 3, .r [(2, .call (.p (.bool y_1)) []), (3, .dec false)]] (by kernel_rfl) (Obs.of (by kernel_rfl) (And.intro (value_ValidRow.spec e_2) (nt g_3)))
theorem bag_entryFits.mono   : ∀ (k k' : Nat) (e0 : TEntry) (r : Bool), k ≤ k' → bag_entryFits k e0 = some r → bag_entryFits k' e0 = some r := by
  intro k k' e0 r hk h
  unfold bag_entryFits at h ⊢
  obtain ⟨y_1, e_2, h⟩ := bind_or h
  refine bnd (value_ValidRow.mono _ _ _ _ hk e_2) ?_
  rcases ite_or h with ⟨g_3, h⟩ | ⟨g_3, h⟩
  · refine itp g_3 ?_
    obtain ⟨y_4, e_5, h⟩ := bind_or h
    refine bnd (bag_countFits.mono _ _ _ _ hk e_5) ?_
    exact h
  · refine itn g_3 ?_
    exact h
theorem bag_entryFits.spec {k : Nat} {e0 : TEntry} {r : Bool} (h : bag_entryFits k e0 = some r) : Spec Try.prog 40 [.agg ((cEntry e0).map .p)] (.p (.bool r)) [] :=
  spec_of mix Try.func40 (body := bodyOf Try.f40) (by kernel_rfl) (by kernel_rfl) (bag_entryFits.run h)
end Go.Proofs.YtjhnpaenhdbhpacV
set_option linter.unusedVariables false
set_option linter.unusedSimpArgs false
set_option maxRecDepth 100000
namespace Go.Proofs.YtjhnpaenhdbhpacV
open Go Go.RowKit
noncomputable def value_Clean.p1  (k : Nat) (v1b : TValue) (v2b : TValue) : Option TValue := some v1b
noncomputable def value_Clean.p2  (k : Nat) (v2b : TValue) : Option TValue := some (TValue.mk 0 0 (⟨#[]⟩ : ByteArray))
noncomputable def value_Clean  (k : Nat) (v0 : TValue) : Option TValue := (value_Valid k v0).bind fun y_1 => if y_1 = true then (value_Clean.p1 k v0 (TValue.mk 0 0 (⟨#[]⟩ : ByteArray))) else (value_Clean.p2 k (TValue.mk 0 0 (⟨#[]⟩ : ByteArray)))
noncomputable def value_Clean.t : List Item := [.code (bodyOf Try.f27)]
noncomputable def value_Clean.s (v0 : TValue) : St := ⟨frOf Try.f27.ntmps 0 [(0, .agg ((cValue v0).map .p))], []⟩
noncomputable def value_Clean.p1.t : List Item := nav 6 [true] value_Clean.t
noncomputable def value_Clean.p1.s (v1b : TValue) (v2b : TValue) : St := ⟨frOf Try.f27.ntmps 0 [(1, .ptr 0 0 0), (2, .ptr 1 0 0)], [.box ((cValue v1b).map .p), .box ((cValue v2b).map .p)]⟩
noncomputable def value_Clean.p2.t : List Item := nav 6 [false] value_Clean.t
noncomputable def value_Clean.p2.s (v2b : TValue) : St := ⟨frOf Try.f27.ntmps 0 [(2, .ptr 0 0 0)], [.box ((cValue v2b).map .p)]⟩
theorem value_Clean.p1.run   {k : Nat} {v1b : TValue} {v2b : TValue} {r : TValue} (h : value_Clean.p1 k v1b v2b = some r) : RunC Try.prog Try.f27 value_Clean.p1.t (value_Clean.p1.s v1b v2b) (.agg ((cValue r).map .p)) [] := by
  unfold value_Clean.p1 at h
  obtain rfl := Option.some.inj h
  exact RunC.out [.n 2] (by kernel_rfl) (Obs.tt (by kernel_rfl))
theorem value_Clean.p2.run   {k : Nat} {v2b : TValue} {r : TValue} (h : value_Clean.p2 k v2b = some r) : RunC Try.prog Try.f27 value_Clean.p2.t (value_Clean.p2.s v2b) (.agg ((cValue r).map .p)) [] := by
  unfold value_Clean.p2 at h
  obtain rfl := Option.some.inj h
  exact RunC.out [.n 3] (by kernel_rfl) (Obs.tt (by kernel_rfl))
theorem value_Clean.run   {k : Nat} {v0 : TValue} {r : TValue} (h : value_Clean k v0 = some r) : RunC Try.prog Try.f27 value_Clean.t (value_Clean.s v0) (.agg ((cValue r).map .p)) [] := by
  unfold value_Clean at h
  obtain ⟨y_1, e_2, h⟩ := bind_or h
  rcases Bool.eq_false_or_eq_true y_1 with hb | hb <;> subst hb
  · rw [if_pos rfl] at h
    exact RunC.go [.n 4, .r [(1, .call (.p (.bool true)) [])], .n 1, .k [1, 2]] (by kernel_rfl) (Obs.of (by kernel_rfl) (value_Valid.spec e_2)) (value_Clean.p1.run h)
  · rw [if_neg (by decide)] at h
    exact RunC.go [.n 4, .r [(1, .call (.p (.bool false)) [])], .n 1, .k [2]] (by kernel_rfl) (Obs.of (by kernel_rfl) (value_Valid.spec e_2)) (value_Clean.p2.run h)
theorem value_Clean.p1.mono   : ∀ (k k' : Nat) (v1b : TValue) (v2b : TValue) (r : TValue), k ≤ k' → value_Clean.p1 k v1b v2b = some r → value_Clean.p1 k' v1b v2b = some r := by
  intro k k' v1b v2b r hk h
  unfold value_Clean.p1 at h ⊢
  exact h
theorem value_Clean.p2.mono   : ∀ (k k' : Nat) (v2b : TValue) (r : TValue), k ≤ k' → value_Clean.p2 k v2b = some r → value_Clean.p2 k' v2b = some r := by
  intro k k' v2b r hk h
  unfold value_Clean.p2 at h ⊢
  exact h
theorem value_Clean.mono   : ∀ (k k' : Nat) (v0 : TValue) (r : TValue), k ≤ k' → value_Clean k v0 = some r → value_Clean k' v0 = some r := by
  intro k k' v0 r hk h
  unfold value_Clean at h ⊢
  obtain ⟨y_1, e_2, h⟩ := bind_or h
  refine bnd (value_Valid.mono _ _ _ _ hk e_2) ?_
  rcases ite_or h with ⟨hb, h⟩ | ⟨hb, h⟩
  · refine itp hb ?_
    exact value_Clean.p1.mono _ _ _ _ r hk h
  · refine itn hb ?_
    exact value_Clean.p2.mono _ _ _ r hk h
theorem value_Clean.spec {k : Nat} {v0 : TValue} {r : TValue} (h : value_Clean k v0 = some r) : Spec Try.prog 27 [.agg ((cValue v0).map .p)] (.agg ((cValue r).map .p)) [] :=
  spec_of mix Try.func27 (body := bodyOf Try.f27) (by kernel_rfl) (by kernel_rfl) (value_Clean.run h)
end Go.Proofs.YtjhnpaenhdbhpacV
set_option linter.unusedVariables false
set_option linter.unusedSimpArgs false
set_option maxRecDepth 100000
namespace Go.Proofs.YtjhnpaenhdbhpacV
open Go Go.RowKit
noncomputable def cmp_isNaN_int  (k : Nat) (x0 : Int) : Option Bool := some (x0 != x0)
noncomputable def cmp_isNaN_int.t : List Item := [.code (bodyOf Try.f72)]
noncomputable def cmp_isNaN_int.s (x0 : Int) : St := ⟨frOf Try.f72.ntmps 0 [(0, .p (.int .i64 x0))], []⟩
theorem cmp_isNaN_int.run   {k : Nat} {x0 : Int} {r : Bool} (h : cmp_isNaN_int k x0 = some r) : RunC Try.prog Try.f72 cmp_isNaN_int.t (cmp_isNaN_int.s x0) (.p (.bool r)) [] := by
  unfold cmp_isNaN_int at h
  obtain rfl := Option.some.inj h
  exact RunC.out [.n 4] (by kernel_rfl) (Obs.tt (by kernel_rfl))
theorem cmp_isNaN_int.mono   : ∀ (k k' : Nat) (x0 : Int) (r : Bool), k ≤ k' → cmp_isNaN_int k x0 = some r → cmp_isNaN_int k' x0 = some r := by
  intro k k' x0 r hk h
  unfold cmp_isNaN_int at h ⊢
  exact h
theorem cmp_isNaN_int.spec {k : Nat} {x0 : Int} {r : Bool} (h : cmp_isNaN_int k x0 = some r) : Spec Try.prog 72 [.p (.int .i64 x0)] (.p (.bool r)) [] :=
  spec_of mix Try.func72 (body := bodyOf Try.f72) (by kernel_rfl) (by kernel_rfl) (cmp_isNaN_int.run h)
end Go.Proofs.YtjhnpaenhdbhpacV
set_option linter.unusedVariables false
set_option linter.unusedSimpArgs false
set_option maxRecDepth 100000
namespace Go.Proofs.YtjhnpaenhdbhpacV
open Go Go.RowKit
noncomputable def cmp_Compare_int  (k : Nat) (x0 : Int) (y1 : Int) : Option Int := (cmp_isNaN_int k x0).bind fun y_1 => ((cmp_isNaN_int k y1).bind fun y_3 => (if y_1 = true then (if y_3 = true then (some 0) else (some (-1))) else (if y_3 = true then (some 1) else (if (decide (x0 < y1)) = true then (some (-1)) else (if (decide (x0 > y1)) = true then (some 1) else (some 0))))))
noncomputable def cmp_Compare_int.t : List Item := [.code (bodyOf Try.f52)]
noncomputable def cmp_Compare_int.s (x0 : Int) (y1 : Int) : St := ⟨frOf Try.f52.ntmps 0 [(0, .p (.int .i64 x0)), (1, .p (.int .i64 y1))], []⟩
theorem cmp_Compare_int.run   {k : Nat} {x0 : Int} {y1 : Int} {r : Int} (h : cmp_Compare_int k x0 y1 = some r) : RunC Try.prog Try.f52 cmp_Compare_int.t (cmp_Compare_int.s x0 y1) (.p (.int .i64 r)) [] := by
  unfold cmp_Compare_int at h
  obtain ⟨y_1, e_2, h⟩ := bind_or h
  obtain ⟨y_3, e_4, h⟩ := bind_or h
  rcases ite_or h with ⟨g_5, h⟩ | ⟨g_5, h⟩
  · rcases ite_or h with ⟨g_6, h⟩ | ⟨g_6, h⟩
    · obtain rfl := Option.some.inj h
      exact RunC.out [.n 3, .r [(1, .call (.p (.bool y_1)) [])], .n 1, .r [(1, .call (.p (.bool y_3)) [])], .n 2, .r [(0, .dec true)], .n 3, .r [(0, .dec true)], .n 3] (by kernel_rfl) (Obs.of (by kernel_rfl) (And.intro (cmp_isNaN_int.spec e_2) (And.intro (cmp_isNaN_int.spec e_4) (And.intro g_5 g_6))))
    · obtain rfl := Option.some.inj h
      exact RunC.out [.n 3, .r [(1, .call (.p (.bool y_1)) [])], .n 1, .r [(1, .call (.p (.bool y_3)) [])], .n 2, .r [(0, .dec true)], .n 3, .r [(0, .dec false)], .n 4] (by kernel_rfl) (Obs.of (by kernel_rfl) (And.intro (cmp_isNaN_int.spec e_2) (And.intro (cmp_isNaN_int.spec e_4) (And.intro g_5 (nt g_6)))))
  · rcases ite_or h with ⟨g_7, h⟩ | ⟨g_7, h⟩
    · obtain rfl := Option.some.inj h
      exact RunC.out [.n 3, .r [(1, .call (.p (.bool y_1)) [])], .n 1, .r [(1, .call (.p (.bool y_3)) [])], .n 2, .r [(0, .dec false)], .n 4, .r [(0, .dec true)], .n 3] (by kernel_rfl) (Obs.of (by kernel_rfl) (And.intro (cmp_isNaN_int.spec e_2) (And.intro (cmp_isNaN_int.spec e_4) (And.intro (nt g_5) g_7))))
    · rcases ite_or h with ⟨g_8, h⟩ | ⟨g_8, h⟩
      · obtain rfl := Option.some.inj h
        exact RunC.out [.n 3, .r [(1, .call (.p (.bool y_1)) [])], .n 1, .r [(1, .call (.p (.bool y_3)) [])], .n 2, .r [(0, .dec false)], .n 4, .r [(0, .dec false)], .n 4, .r [(2, .dec true)], .n 3] (by kernel_rfl) (Obs.of (by kernel_rfl) (And.intro (cmp_isNaN_int.spec e_2) (And.intro (cmp_isNaN_int.spec e_4) (And.intro (nt g_5) (And.intro (nt g_7) g_8)))))
      · rcases ite_or h with ⟨g_9, h⟩ | ⟨g_9, h⟩
        · obtain rfl := Option.some.inj h
          exact RunC.out [.n 3, .r [(1, .call (.p (.bool y_1)) [])], .n 1, .r [(1, .call (.p (.bool y_3)) [])], .n 2, .r [(0, .dec false)], .n 4, .r [(0, .dec false)], .n 4, .r [(2, .dec false)], .n 4, .r [(2, .dec true)], .n 3] (by kernel_rfl) (Obs.of (by kernel_rfl) (And.intro (cmp_isNaN_int.spec e_2) (And.intro (cmp_isNaN_int.spec e_4) (And.intro (nt g_5) (And.intro (nt g_7) (And.intro (nt g_8) g_9))))))
        · obtain rfl := Option.some.inj h
          exact RunC.out [.n 3, .r [(1, .call (.p (.bool y_1)) [])], .n 1, .r [(1, .call (.p (.bool y_3)) [])], .n 2, .r [(0, .dec false)], .n 4, .r [(0, .dec false)], .n 4, .r [(2, .dec false)], .n 4, .r [(2, .dec false)], .n 4] (by kernel_rfl) (Obs.of (by kernel_rfl) (And.intro (cmp_isNaN_int.spec e_2) (And.intro (cmp_isNaN_int.spec e_4) (And.intro (nt g_5) (And.intro (nt g_7) (And.intro (nt g_8) (nt g_9)))))))
theorem cmp_Compare_int.mono   : ∀ (k k' : Nat) (x0 : Int) (y1 : Int) (r : Int), k ≤ k' → cmp_Compare_int k x0 y1 = some r → cmp_Compare_int k' x0 y1 = some r := by
  intro k k' x0 y1 r hk h
  unfold cmp_Compare_int at h ⊢
  obtain ⟨y_1, e_2, h⟩ := bind_or h
  refine bnd (cmp_isNaN_int.mono _ _ _ _ hk e_2) ?_
  obtain ⟨y_3, e_4, h⟩ := bind_or h
  refine bnd (cmp_isNaN_int.mono _ _ _ _ hk e_4) ?_
  rcases ite_or h with ⟨g_5, h⟩ | ⟨g_5, h⟩
  · refine itp g_5 ?_
    rcases ite_or h with ⟨g_6, h⟩ | ⟨g_6, h⟩
    · refine itp g_6 ?_
      exact h
    · refine itn g_6 ?_
      exact h
  · refine itn g_5 ?_
    rcases ite_or h with ⟨g_7, h⟩ | ⟨g_7, h⟩
    · refine itp g_7 ?_
      exact h
    · refine itn g_7 ?_
      rcases ite_or h with ⟨g_8, h⟩ | ⟨g_8, h⟩
      · refine itp g_8 ?_
        exact h
      · refine itn g_8 ?_
        rcases ite_or h with ⟨g_9, h⟩ | ⟨g_9, h⟩
        · refine itp g_9 ?_
          exact h
        · refine itn g_9 ?_
          exact h
theorem cmp_Compare_int.spec {k : Nat} {x0 : Int} {y1 : Int} {r : Int} (h : cmp_Compare_int k x0 y1 = some r) : Spec Try.prog 52 [.p (.int .i64 x0), .p (.int .i64 y1)] (.p (.int .i64 r)) [] :=
  spec_of mix Try.func52 (body := bodyOf Try.f52) (by kernel_rfl) (by kernel_rfl) (cmp_Compare_int.run h)
end Go.Proofs.YtjhnpaenhdbhpacV
set_option linter.unusedVariables false
set_option linter.unusedSimpArgs false
set_option maxRecDepth 100000
namespace Go.Proofs.YtjhnpaenhdbhpacV
open Go Go.RowKit
noncomputable def cmp_isNaN_int64  (k : Nat) (x0 : Int) : Option Bool := some (x0 != x0)
noncomputable def cmp_isNaN_int64.t : List Item := [.code (bodyOf Try.f73)]
noncomputable def cmp_isNaN_int64.s (x0 : Int) : St := ⟨frOf Try.f73.ntmps 0 [(0, .p (.int .i64 x0))], []⟩
theorem cmp_isNaN_int64.run   {k : Nat} {x0 : Int} {r : Bool} (h : cmp_isNaN_int64 k x0 = some r) : RunC Try.prog Try.f73 cmp_isNaN_int64.t (cmp_isNaN_int64.s x0) (.p (.bool r)) [] := by
  unfold cmp_isNaN_int64 at h
  obtain rfl := Option.some.inj h
  exact RunC.out [.n 4] (by kernel_rfl) (Obs.tt (by kernel_rfl))
theorem cmp_isNaN_int64.mono   : ∀ (k k' : Nat) (x0 : Int) (r : Bool), k ≤ k' → cmp_isNaN_int64 k x0 = some r → cmp_isNaN_int64 k' x0 = some r := by
  intro k k' x0 r hk h
  unfold cmp_isNaN_int64 at h ⊢
  exact h
theorem cmp_isNaN_int64.spec {k : Nat} {x0 : Int} {r : Bool} (h : cmp_isNaN_int64 k x0 = some r) : Spec Try.prog 73 [.p (.int .i64 x0)] (.p (.bool r)) [] :=
  spec_of mix Try.func73 (body := bodyOf Try.f73) (by kernel_rfl) (by kernel_rfl) (cmp_isNaN_int64.run h)
end Go.Proofs.YtjhnpaenhdbhpacV
set_option linter.unusedVariables false
set_option linter.unusedSimpArgs false
set_option maxRecDepth 100000
namespace Go.Proofs.YtjhnpaenhdbhpacV
open Go Go.RowKit
noncomputable def cmp_Compare_int64  (k : Nat) (x0 : Int) (y1 : Int) : Option Int := (cmp_isNaN_int64 k x0).bind fun y_1 => ((cmp_isNaN_int64 k y1).bind fun y_3 => (if y_1 = true then (if y_3 = true then (some 0) else (some (-1))) else (if y_3 = true then (some 1) else (if (decide (x0 < y1)) = true then (some (-1)) else (if (decide (x0 > y1)) = true then (some 1) else (some 0))))))
noncomputable def cmp_Compare_int64.t : List Item := [.code (bodyOf Try.f53)]
noncomputable def cmp_Compare_int64.s (x0 : Int) (y1 : Int) : St := ⟨frOf Try.f53.ntmps 0 [(0, .p (.int .i64 x0)), (1, .p (.int .i64 y1))], []⟩
theorem cmp_Compare_int64.run   {k : Nat} {x0 : Int} {y1 : Int} {r : Int} (h : cmp_Compare_int64 k x0 y1 = some r) : RunC Try.prog Try.f53 cmp_Compare_int64.t (cmp_Compare_int64.s x0 y1) (.p (.int .i64 r)) [] := by
  unfold cmp_Compare_int64 at h
  obtain ⟨y_1, e_2, h⟩ := bind_or h
  obtain ⟨y_3, e_4, h⟩ := bind_or h
  rcases ite_or h with ⟨g_5, h⟩ | ⟨g_5, h⟩
  · rcases ite_or h with ⟨g_6, h⟩ | ⟨g_6, h⟩
    · obtain rfl := Option.some.inj h
      exact RunC.out [.n 3, .r [(1, .call (.p (.bool y_1)) [])], .n 1, .r [(1, .call (.p (.bool y_3)) [])], .n 2, .r [(0, .dec true)], .n 3, .r [(0, .dec true)], .n 3] (by kernel_rfl) (Obs.of (by kernel_rfl) (And.intro (cmp_isNaN_int64.spec e_2) (And.intro (cmp_isNaN_int64.spec e_4) (And.intro g_5 g_6))))
    · obtain rfl := Option.some.inj h
      exact RunC.out [.n 3, .r [(1, .call (.p (.bool y_1)) [])], .n 1, .r [(1, .call (.p (.bool y_3)) [])], .n 2, .r [(0, .dec true)], .n 3, .r [(0, .dec false)], .n 4] (by kernel_rfl) (Obs.of (by kernel_rfl) (And.intro (cmp_isNaN_int64.spec e_2) (And.intro (cmp_isNaN_int64.spec e_4) (And.intro g_5 (nt g_6)))))
  · rcases ite_or h with ⟨g_7, h⟩ | ⟨g_7, h⟩
    · obtain rfl := Option.some.inj h
      exact RunC.out [.n 3, .r [(1, .call (.p (.bool y_1)) [])], .n 1, .r [(1, .call (.p (.bool y_3)) [])], .n 2, .r [(0, .dec false)], .n 4, .r [(0, .dec true)], .n 3] (by kernel_rfl) (Obs.of (by kernel_rfl) (And.intro (cmp_isNaN_int64.spec e_2) (And.intro (cmp_isNaN_int64.spec e_4) (And.intro (nt g_5) g_7))))
    · rcases ite_or h with ⟨g_8, h⟩ | ⟨g_8, h⟩
      · obtain rfl := Option.some.inj h
        exact RunC.out [.n 3, .r [(1, .call (.p (.bool y_1)) [])], .n 1, .r [(1, .call (.p (.bool y_3)) [])], .n 2, .r [(0, .dec false)], .n 4, .r [(0, .dec false)], .n 4, .r [(2, .dec true)], .n 3] (by kernel_rfl) (Obs.of (by kernel_rfl) (And.intro (cmp_isNaN_int64.spec e_2) (And.intro (cmp_isNaN_int64.spec e_4) (And.intro (nt g_5) (And.intro (nt g_7) g_8)))))
      · rcases ite_or h with ⟨g_9, h⟩ | ⟨g_9, h⟩
        · obtain rfl := Option.some.inj h
          exact RunC.out [.n 3, .r [(1, .call (.p (.bool y_1)) [])], .n 1, .r [(1, .call (.p (.bool y_3)) [])], .n 2, .r [(0, .dec false)], .n 4, .r [(0, .dec false)], .n 4, .r [(2, .dec false)], .n 4, .r [(2, .dec true)], .n 3] (by kernel_rfl) (Obs.of (by kernel_rfl) (And.intro (cmp_isNaN_int64.spec e_2) (And.intro (cmp_isNaN_int64.spec e_4) (And.intro (nt g_5) (And.intro (nt g_7) (And.intro (nt g_8) g_9))))))
        · obtain rfl := Option.some.inj h
          exact RunC.out [.n 3, .r [(1, .call (.p (.bool y_1)) [])], .n 1, .r [(1, .call (.p (.bool y_3)) [])], .n 2, .r [(0, .dec false)], .n 4, .r [(0, .dec false)], .n 4, .r [(2, .dec false)], .n 4, .r [(2, .dec false)], .n 4] (by kernel_rfl) (Obs.of (by kernel_rfl) (And.intro (cmp_isNaN_int64.spec e_2) (And.intro (cmp_isNaN_int64.spec e_4) (And.intro (nt g_5) (And.intro (nt g_7) (And.intro (nt g_8) (nt g_9)))))))
theorem cmp_Compare_int64.mono   : ∀ (k k' : Nat) (x0 : Int) (y1 : Int) (r : Int), k ≤ k' → cmp_Compare_int64 k x0 y1 = some r → cmp_Compare_int64 k' x0 y1 = some r := by
  intro k k' x0 y1 r hk h
  unfold cmp_Compare_int64 at h ⊢
  obtain ⟨y_1, e_2, h⟩ := bind_or h
  refine bnd (cmp_isNaN_int64.mono _ _ _ _ hk e_2) ?_
  obtain ⟨y_3, e_4, h⟩ := bind_or h
  refine bnd (cmp_isNaN_int64.mono _ _ _ _ hk e_4) ?_
  rcases ite_or h with ⟨g_5, h⟩ | ⟨g_5, h⟩
  · refine itp g_5 ?_
    rcases ite_or h with ⟨g_6, h⟩ | ⟨g_6, h⟩
    · refine itp g_6 ?_
      exact h
    · refine itn g_6 ?_
      exact h
  · refine itn g_5 ?_
    rcases ite_or h with ⟨g_7, h⟩ | ⟨g_7, h⟩
    · refine itp g_7 ?_
      exact h
    · refine itn g_7 ?_
      rcases ite_or h with ⟨g_8, h⟩ | ⟨g_8, h⟩
      · refine itp g_8 ?_
        exact h
      · refine itn g_8 ?_
        rcases ite_or h with ⟨g_9, h⟩ | ⟨g_9, h⟩
        · refine itp g_9 ?_
          exact h
        · refine itn g_9 ?_
          exact h
theorem cmp_Compare_int64.spec {k : Nat} {x0 : Int} {y1 : Int} {r : Int} (h : cmp_Compare_int64 k x0 y1 = some r) : Spec Try.prog 53 [.p (.int .i64 x0), .p (.int .i64 y1)] (.p (.int .i64 r)) [] :=
  spec_of mix Try.func53 (body := bodyOf Try.f53) (by kernel_rfl) (by kernel_rfl) (cmp_Compare_int64.run h)
end Go.Proofs.YtjhnpaenhdbhpacV
set_option linter.unusedVariables false
set_option linter.unusedSimpArgs false
set_option maxRecDepth 100000
namespace Go.Proofs.YtjhnpaenhdbhpacV
open Go Go.RowKit
noncomputable def cmp_isNaN_string  (k : Nat) (x0 : ByteArray) : Option Bool := some (!(x0.data.toList == x0.data.toList))
noncomputable def cmp_isNaN_string.t : List Item := [.code (bodyOf Try.f74)]
noncomputable def cmp_isNaN_string.s (x0 : ByteArray) : St := ⟨frOf Try.f74.ntmps 0 [(0, .p (.str x0))], []⟩
theorem cmp_isNaN_string.run   {k : Nat} {x0 : ByteArray} {r : Bool} (h : cmp_isNaN_string k x0 = some r) : RunC Try.prog Try.f74 cmp_isNaN_string.t (cmp_isNaN_string.s x0) (.p (.bool r)) [] := by
  unfold cmp_isNaN_string at h
  obtain rfl := Option.some.inj h
  exact RunC.out [.n 4] (by kernel_rfl) (Obs.tt (by kernel_rfl))
theorem cmp_isNaN_string.mono   : ∀ (k k' : Nat) (x0 : ByteArray) (r : Bool), k ≤ k' → cmp_isNaN_string k x0 = some r → cmp_isNaN_string k' x0 = some r := by
  intro k k' x0 r hk h
  unfold cmp_isNaN_string at h ⊢
  exact h
theorem cmp_isNaN_string.spec {k : Nat} {x0 : ByteArray} {r : Bool} (h : cmp_isNaN_string k x0 = some r) : Spec Try.prog 74 [.p (.str x0)] (.p (.bool r)) [] :=
  spec_of mix Try.func74 (body := bodyOf Try.f74) (by kernel_rfl) (by kernel_rfl) (cmp_isNaN_string.run h)
end Go.Proofs.YtjhnpaenhdbhpacV
set_option linter.unusedVariables false
set_option linter.unusedSimpArgs false
set_option maxRecDepth 100000
namespace Go.Proofs.YtjhnpaenhdbhpacV
open Go Go.RowKit
noncomputable def cmp_Compare_string  (k : Nat) (x0 : ByteArray) (y1 : ByteArray) : Option Int := (cmp_isNaN_string k x0).bind fun y_1 => ((cmp_isNaN_string k y1).bind fun y_3 => (if y_1 = true then (if y_3 = true then (some 0) else (some (-1))) else (if y_3 = true then (some 1) else (if (Op.bytesLess x0.data.toList y1.data.toList) = true then (some (-1)) else (if (!((Op.bytesLess x0.data.toList y1.data.toList) || (x0.data.toList == y1.data.toList))) = true then (some 1) else (some 0))))))
noncomputable def cmp_Compare_string.t : List Item := [.code (bodyOf Try.f54)]
noncomputable def cmp_Compare_string.s (x0 : ByteArray) (y1 : ByteArray) : St := ⟨frOf Try.f54.ntmps 0 [(0, .p (.str x0)), (1, .p (.str y1))], []⟩
theorem cmp_Compare_string.run   {k : Nat} {x0 : ByteArray} {y1 : ByteArray} {r : Int} (h : cmp_Compare_string k x0 y1 = some r) : RunC Try.prog Try.f54 cmp_Compare_string.t (cmp_Compare_string.s x0 y1) (.p (.int .i64 r)) [] := by
  unfold cmp_Compare_string at h
  obtain ⟨y_1, e_2, h⟩ := bind_or h
  obtain ⟨y_3, e_4, h⟩ := bind_or h
  rcases ite_or h with ⟨g_5, h⟩ | ⟨g_5, h⟩
  · rcases ite_or h with ⟨g_6, h⟩ | ⟨g_6, h⟩
    · obtain rfl := Option.some.inj h
      exact RunC.out [.n 3, .r [(1, .call (.p (.bool y_1)) [])], .n 1, .r [(1, .call (.p (.bool y_3)) [])], .n 2, .r [(0, .dec true)], .n 3, .r [(0, .dec true)], .n 3] (by kernel_rfl) (Obs.of (by kernel_rfl) (And.intro (cmp_isNaN_string.spec e_2) (And.intro (cmp_isNaN_string.spec e_4) (And.intro g_5 g_6))))
    · obtain rfl := Option.some.inj h
      exact RunC.out [.n 3, .r [(1, .call (.p (.bool y_1)) [])], .n 1, .r [(1, .call (.p (.bool y_3)) [])], .n 2, .r [(0, .dec true)], .n 3, .r [(0, .dec false)], .n 4] (by kernel_rfl) (Obs.of (by kernel_rfl) (And.intro (cmp_isNaN_string.spec e_2) (And.intro (cmp_isNaN_string.spec e_4) (And.intro g_5 (nt g_6)))))
  · rcases ite_or h with ⟨g_7, h⟩ | ⟨g_7, h⟩
    · obtain rfl := Option.some.inj h
      exact RunC.out [.n 3, .r [(1, .call (.p (.bool y_1)) [])], .n 1, .r [(1, .call (.p (.bool y_3)) [])], .n 2, .r [(0, .dec false)], .n 4, .r [(0, .dec true)], .n 3] (by kernel_rfl) (Obs.of (by kernel_rfl) (And.intro (cmp_isNaN_string.spec e_2) (And.intro (cmp_isNaN_string.spec e_4) (And.intro (nt g_5) g_7))))
    · rcases ite_or h with ⟨g_8, h⟩ | ⟨g_8, h⟩
      · obtain rfl := Option.some.inj h
        exact RunC.out [.n 3, .r [(1, .call (.p (.bool y_1)) [])], .n 1, .r [(1, .call (.p (.bool y_3)) [])], .n 2, .r [(0, .dec false)], .n 4, .r [(0, .dec false)], .n 4, .r [(2, .dec true)], .n 3] (by kernel_rfl) (Obs.of (by kernel_rfl) (And.intro (cmp_isNaN_string.spec e_2) (And.intro (cmp_isNaN_string.spec e_4) (And.intro (nt g_5) (And.intro (nt g_7) g_8)))))
      · rcases ite_or h with ⟨g_9, h⟩ | ⟨g_9, h⟩
        · obtain rfl := Option.some.inj h
          exact RunC.out [.n 3, .r [(1, .call (.p (.bool y_1)) [])], .n 1, .r [(1, .call (.p (.bool y_3)) [])], .n 2, .r [(0, .dec false)], .n 4, .r [(0, .dec false)], .n 4, .r [(2, .dec false)], .n 4, .r [(2, .dec true)], .n 3] (by kernel_rfl) (Obs.of (by kernel_rfl) (And.intro (cmp_isNaN_string.spec e_2) (And.intro (cmp_isNaN_string.spec e_4) (And.intro (nt g_5) (And.intro (nt g_7) (And.intro (nt g_8) g_9))))))
        · obtain rfl := Option.some.inj h
          exact RunC.out [.n 3, .r [(1, .call (.p (.bool y_1)) [])], .n 1, .r [(1, .call (.p (.bool y_3)) [])], .n 2, .r [(0, .dec false)], .n 4, .r [(0, .dec false)], .n 4, .r [(2, .dec false)], .n 4, .r [(2, .dec false)], .n 4] (by kernel_rfl) (Obs.of (by kernel_rfl) (And.intro (cmp_isNaN_string.spec e_2) (And.intro (cmp_isNaN_string.spec e_4) (And.intro (nt g_5) (And.intro (nt g_7) (And.intro (nt g_8) (nt g_9)))))))
theorem cmp_Compare_string.mono   : ∀ (k k' : Nat) (x0 : ByteArray) (y1 : ByteArray) (r : Int), k ≤ k' → cmp_Compare_string k x0 y1 = some r → cmp_Compare_string k' x0 y1 = some r := by
  intro k k' x0 y1 r hk h
  unfold cmp_Compare_string at h ⊢
  obtain ⟨y_1, e_2, h⟩ := bind_or h
  refine bnd (cmp_isNaN_string.mono _ _ _ _ hk e_2) ?_
  obtain ⟨y_3, e_4, h⟩ := bind_or h
  refine bnd (cmp_isNaN_string.mono _ _ _ _ hk e_4) ?_
  rcases ite_or h with ⟨g_5, h⟩ | ⟨g_5, h⟩
  · refine itp g_5 ?_
    rcases ite_or h with ⟨g_6, h⟩ | ⟨g_6, h⟩
    · refine itp g_6 ?_
      exact h
    · refine itn g_6 ?_
      exact h
  · refine itn g_5 ?_
    rcases ite_or h with ⟨g_7, h⟩ | ⟨g_7, h⟩
    · refine itp g_7 ?_
      exact h
    · refine itn g_7 ?_
      rcases ite_or h with ⟨g_8, h⟩ | ⟨g_8, h⟩
      · refine itp g_8 ?_
        exact h
      · refine itn g_8 ?_
        rcases ite_or h with ⟨g_9, h⟩ | ⟨g_9, h⟩
        · refine itp g_9 ?_
          exact h
        · refine itn g_9 ?_
          exact h
theorem cmp_Compare_string.spec {k : Nat} {x0 : ByteArray} {y1 : ByteArray} {r : Int} (h : cmp_Compare_string k x0 y1 = some r) : Spec Try.prog 54 [.p (.str x0), .p (.str y1)] (.p (.int .i64 r)) [] :=
  spec_of mix Try.func54 (body := bodyOf Try.f54) (by kernel_rfl) (by kernel_rfl) (cmp_Compare_string.run h)
end Go.Proofs.YtjhnpaenhdbhpacV
