/- Part of the proof of ReleaseHides: printed by programs of this repo out of the translation, and by hand. Each theorem's conditions stand in its statement. -/
import Derived.WideShapes
import Derived.ProofKit
import Derived.OpenShut
import Derived.ShutString
import Derived.ChangeOld
import Derived.SizedLaws
import Derived.ChangeSlices
import Derived.Orders
import Derived.Below
import Derived.Laws.AppendOwn
import Derived.Laws.OwnMore
import Derived.KernelRfl
import Derived.Test.YtjhnpaenhdbhpaaMReleaseHidesa
import Derived.Test.YtjhnpaenhdbhpaaMReleaseHidesb
set_option linter.unusedVariables false
set_option linter.unusedSimpArgs false
namespace Go.Proofs.YtjhnpaenhdbhpaaV
open Go Go.RowKit
theorem V_ext {x y : TValue} (h0 : x.f0 = y.f0) (h1 : x.f1 = y.f1) (h2 : x.f2 = y.f2) : x = y := by cases x; cases y; simp_all
instance : DecidableEq TValue := fun x y => decidable_of_iff (x.f0 = y.f0 ∧ x.f1 = y.f1 ∧ x.f2 = y.f2) ⟨fun h => V_ext h.1 h.2.1 h.2.2, fun h => by subst h; exact ⟨rfl, rfl, rfl⟩⟩
def okV (x : TValue) : Bool :=
  if x.f0 = 0 then decide (x.f1 = 0) && decide (x.f2 = (⟨#[]⟩ : ByteArray))
  else if x.f0 = 1 then decide (-4294967296 ≤ x.f1 ∧ x.f1 ≤ 4294967296) && decide (x.f2 = (⟨#[]⟩ : ByteArray))
  else if x.f0 = 2 then decide (x.f1 = 0) && decide (x.f2.size ≤ 32)
  else false
def clV (x : TValue) : TValue := if okV x then x else ⟨0, 0, ⟨#[]⟩⟩
theorem beq_empty (a : ByteArray) : (a.data.toList == (#[] : Array UInt8).toList) = decide (a = (⟨#[]⟩ : ByteArray)) := bytes_beq a ⟨#[]⟩
theorem beq_nil (a : ByteArray) : (a.data.toList == ([] : List UInt8)) = decide (a = (⟨#[]⟩ : ByteArray)) := bytes_beq a ⟨#[]⟩
theorem value_Valid_eq (k : Nat) (v : TValue) : value_Valid k v = some (okV v) := by
  unfold value_Valid value_inRange okV
  simp only [beq_empty, beq_nil, beq_iff_eq, decide_eq_true_eq]
  generalize decide (v.f2 = (⟨#[]⟩ : ByteArray)) = q
  by_cases h0 : v.f0 = 0
  · simp only [if_pos h0]
    by_cases h1 : v.f1 = 0 <;> simp [h1]
  · simp only [if_neg h0]
    by_cases h1 : v.f0 = 1
    · simp only [if_pos h1]
      by_cases h2 : v.f1 ≥ -4294967296
      · rw [if_pos h2]; simp only [Option.bind_some, decide_eq_true_eq]
        by_cases h3 : v.f1 ≤ 4294967296
        · rw [if_pos h3]; simp [h3]; omega
        · rw [if_neg h3]; simp [h3]
      · rw [if_neg h2]; simp; omega
    · simp only [if_neg h1]
      by_cases h2 : v.f0 = 2
      · simp only [if_pos h2]
        by_cases h3 : v.f1 = 0
        · simp [h3]; omega
        · simp [h3]
      · simp [h2]
theorem ref01_Valid_eq (k : Nat) (v : TValue) : erasureref01_Valid k v = some (okV v) := by
  rw [← value_Valid_eq k]
  unfold erasureref01_Valid value_Valid value_inRange
  by_cases h0 : (v.f0 == 0) = true
  · simp only [if_pos h0]
  · simp only [if_neg h0]
    by_cases h1 : (v.f0 == 1) = true
    · simp only [if_pos h1]
      by_cases h2 : decide (v.f1 ≥ -4294967296) = true
      · simp only [if_pos h2, Option.bind_some]
      · simp only [if_neg h2, Option.bind_some, Bool.false_eq_true, if_false]
    · simp only [if_neg h1]
theorem value_Clean_eq (k : Nat) (x : TValue) : value_Clean k x = some (clV x) := by
  unfold value_Clean clV value_Clean.p1 value_Clean.p2
  rw [value_Valid_eq, Option.bind_some]
  by_cases h : okV x = true
  · rw [if_pos h, if_pos h]
  · rw [if_neg h, if_neg h]
theorem ref01_Clean_eq (k : Nat) (x : TValue) : erasureref01_Clean k x = some (clV x) := by
  unfold erasureref01_Clean clV erasureref01_Clean.p1 erasureref01_Clean.p2
  rw [ref01_Valid_eq, Option.bind_some]
  by_cases h : okV x = true
  · rw [if_pos h, if_pos h]
  · rw [if_neg h, if_neg h]
theorem eqV_iff (x y : TValue) : ((x.f0 == y.f0) && ((x.f1 == y.f1) && ((x.f2.data.toList == y.f2.data.toList) && true))) = decide (x = y) := by
  rw [bytes_beq, Bool.eq_iff_iff]
  simp only [Bool.and_eq_true, beq_iff_eq, decide_eq_true_eq, and_true]
  exact ⟨fun h => V_ext h.1 h.2.1 h.2.2, fun h => by subst h; exact ⟨rfl, rfl, rfl⟩⟩
theorem dV {l : List TValue} {i : Nat} (h : i < l.length) : l.drop i = l.getD (i : Int).toNat dValue :: l.drop (i + 1) := drop_cons _ h
theorem dE {l : List TEntry} {i : Nat} (h : i < l.length) : l.drop i = l.getD (i : Int).toNat dEntry :: l.drop (i + 1) := drop_cons _ h
end Go.Proofs.YtjhnpaenhdbhpaaV
set_option linter.unusedVariables false
set_option linter.unusedSimpArgs false
namespace Go.Proofs.YtjhnpaenhdbhpaaV
open Go Go.RowKit
theorem bytesLess_eq : ∀ (x y : List UInt8), Op.bytesLess x y = decide (x < y)
  | [], [] => by simp [Op.bytesLess]
  | _ :: _, [] => by simp [Op.bytesLess]
  | [], _ :: _ => by simp [Op.bytesLess]
  | a :: x, b :: y => by
    rw [Op.bytesLess, bytesLess_eq x y]
    simp only [List.cons_lt_cons_iff]
    by_cases h1 : a < b <;> by_cases h2 : a = b <;> by_cases h3 : x < y <;> simp [h1, h2, h3]
theorem gtr_flip (a b : List UInt8) : (!(Op.bytesLess a b || a == b)) = Op.bytesLess b a := by
  rw [bytesLess_eq, bytesLess_eq, Bool.eq_iff_iff]
  simp only [Bool.not_eq_true', Bool.or_eq_false_iff, decide_eq_false_iff_not, beq_eq_false_iff_ne, decide_eq_true_eq]
  constructor
  · rintro ⟨h1, h2⟩
    rcases Std.lt_trichotomy a b with h | h | h
    · exact absurd h h1
    · exact absurd h h2
    · exact h
  · intro h
    exact ⟨fun h1 => (List.lt_asymm h h1), fun h1 => by subst h1; exact List.lt_irrefl _ h⟩
theorem clV_ok {x : TValue} (h : okV x = true) : clV x = x := if_pos h
def cmpI (a b : Int) : Int := if a < b then -1 else if b < a then 1 else 0
def cmpB (a b : ByteArray) : Int := if a.data.toList < b.data.toList then -1 else if b.data.toList < a.data.toList then 1 else 0
def cmpC (a b : TValue) : Int := if a.f0 ≠ b.f0 then cmpI a.f0 b.f0 else if a.f0 = 1 then cmpI a.f1 b.f1 else cmpB a.f2 b.f2
def cmpV (x y : TValue) : Int := cmpC (clV x) (clV y)
theorem cmp_int_eq (k : Nat) (a b : Int) : cmp_Compare_int k a b = some (cmpI a b) := by
  unfold cmp_Compare_int cmp_isNaN_int cmpI
  simp only [Option.bind_some, bne_self_eq_false, Bool.false_eq_true, if_false, GT.gt, decide_eq_true_eq]
  repeat' split
  all_goals rfl
theorem cmp_int64_eq (k : Nat) (a b : Int) : cmp_Compare_int64 k a b = some (cmpI a b) := by
  unfold cmp_Compare_int64 cmp_isNaN_int64 cmpI
  simp only [Option.bind_some, bne_self_eq_false, Bool.false_eq_true, if_false, GT.gt, decide_eq_true_eq]
  repeat' split
  all_goals rfl
theorem cmp_string_eq (k : Nat) (a b : ByteArray) : cmp_Compare_string k a b = some (cmpB a b) := by
  unfold cmp_Compare_string cmp_isNaN_string cmpB
  simp only [gtr_flip]
  simp only [Option.bind_some, beq_self_eq_true, Bool.not_true, Bool.false_eq_true, if_false, bytesLess_eq, decide_eq_true_eq]
  repeat' split
  all_goals rfl
theorem value_Compare_eq (k : Nat) (x y : TValue) : value_Compare k x y = some (cmpV x y) := by
  unfold value_Compare cmpV cmpC
  rw [value_Clean_eq, value_Clean_eq]
  simp only [Option.bind_some, cmp_int_eq, cmp_int64_eq, cmp_string_eq, bne_iff_ne, beq_iff_eq]
  repeat' split
  all_goals rfl
theorem cmpI_neg {a b : Int} : cmpI a b < 0 ↔ a < b := by unfold cmpI; split <;> (try split) <;> omega
end Go.Proofs.YtjhnpaenhdbhpaaV
set_option linter.unusedVariables false
set_option linter.unusedSimpArgs false
namespace Go.Proofs.YtjhnpaenhdbhpaaV
open Go Go.RowKit
def cmpR : List TValue → List TValue → Int
  | [], [] => 0
  | [], _ :: _ => -1
  | _ :: _, [] => 1
  | x :: xs, y :: ys => if cmpV x y = 0 then cmpR xs ys else cmpV x y
theorem cmpR_nil (xs : List TValue) : cmpR xs [] = if xs.length = 0 then 0 else 1 := by cases xs <;> rfl
theorem nil_cmpR (ys : List TValue) : cmpR [] ys = if ys.length = 0 then 0 else -1 := by cases ys <;> rfl
theorem value_CompareRows_ev (xs ys : List TValue) (hx : xs.length ≤ 9223372036854775807) : Ev (fun k => value_CompareRows k xs ys) (cmpR xs ys) := by
  unfold value_CompareRows slices_CompareFunc_api_Value__value_Compare
  refine Ev.bind ?_ (Ev.now _)
  refine (loop_down (P := fun i => i ≤ ys.length → Ev (fun k => slices_CompareFunc_api_Value__value_Compare.p1 k xs ys xs (xs.length : Int) (i : Int)) (cmpR (xs.drop i) (ys.drop i))) xs.length ?_ ?_ 0 (by omega)) (by omega)
  · intro hy
    refine Ev.succ ?_
    simp only [slices_CompareFunc_api_Value__value_Compare.p1, decide_eq_true_eq]
    rw [List.drop_length, nil_cmpR, List.length_drop]
    refine Ev.ite_neg (by omega) ?_
    by_cases h : xs.length < ys.length
    · exact Ev.ite_pos (by omega) (Ev.done (by rw [if_neg (by omega)]))
    · exact Ev.ite_neg (by omega) (Ev.done (by rw [if_pos (by omega)]))
  · intro i hi ih hy
    refine Ev.succ ?_
    simp only [slices_CompareFunc_api_Value__value_Compare.p1, decide_eq_true_eq, value_Compare_eq, Option.bind_some, bne_iff_ne, ne_eq, ite_not]
    refine Ev.ite_pos (by omega) (Ev.ite_pos (by omega) ?_)
    by_cases h : i < ys.length
    · refine Ev.ite_neg (by omega) (Ev.ite_pos (by omega) ?_)
      rw [dV hi, dV h, wrn hi hx]
      unfold cmpR
      by_cases hc : cmpV (xs.getD (i : Int).toNat dValue) (ys.getD (i : Int).toNat dValue) = 0
      · rw [if_pos hc]; exact Ev.ite_pos hc (ih (by omega))
      · rw [if_neg hc]; exact Ev.ite_neg hc (Ev.now _)
    · rw [List.drop_eq_nil_of_le (show ys.length ≤ i by omega), cmpR_nil, List.length_drop, if_neg (by omega)]
      exact Ev.ite_pos (by omega) (Ev.now _)
def okRow (l : List TValue) : Bool := l.all okV && decide (l.length ≤ 16)
theorem value_ValidRow_ev (l : List TValue) (hl : l.length ≤ 9223372036854775807) : Ev (fun k => value_ValidRow k l) (okRow l) := by
  unfold value_ValidRow
  refine (loop_down (P := fun i => Ev (fun k => value_ValidRow.p1 k l l (l.length : Int) (i : Int)) ((l.drop i).all okV && decide (l.length ≤ 16))) l.length ?_ ?_ 0 (by omega))
  · refine Ev.succ ?_
    simp only [value_ValidRow.p1, decide_eq_true_eq]
    rw [List.drop_length]
    refine Ev.ite_neg (by omega) (Ev.done ?_)
    simp; omega
  · intro i hi ih
    refine Ev.succ ?_
    simp only [value_ValidRow.p1, value_Valid_eq, Option.bind_some, decide_eq_true_eq]
    refine Ev.ite_pos (by omega) (Ev.ite_pos (by omega) ?_)
    rw [dV hi, wrn hi hl, List.all_cons]
    cases hc : okV (l.getD (i : Int).toNat dValue) with
    | true => exact Ev.ite_neg (by simp) ih
    | false => exact Ev.ite_pos rfl (Ev.now _)
def okE (e : TEntry) : Bool := okRow e.f0 && decide (-262144 ≤ e.f1 ∧ e.f1 ≤ 262144)
theorem countFits_eq (k : Nat) (n : Int) : bag_countFits k n = some (decide (-262144 ≤ n ∧ n ≤ 262144)) := by
  unfold bag_countFits
  simp only [decide_eq_true_eq]
  by_cases h : n ≥ -262144
  · rw [if_pos h]; simp; omega
  · rw [if_neg h]; simp; omega
theorem entryFits_ev (e : TEntry) (hl : e.f0.length ≤ 9223372036854775807) : Ev (fun k => bag_entryFits k e) (okE e) := by
  unfold bag_entryFits okE
  refine Ev.bind (value_ValidRow_ev _ hl) ?_
  cases hc : okRow e.f0 with
  | true => simp only [if_true, countFits_eq, Option.bind_some, Bool.true_and]; exact Ev.now _
  | false => simp only [Bool.false_eq_true, if_false, Bool.false_and]; exact Ev.now _
def bvF : Option TEntry → List TEntry → Bool
  | _, [] => true
  | none, e :: l => okE e && !decide (e.f1 = 0) && bvF (some e) l
  | some p, e :: l => okE e && !decide (e.f1 = 0) && decide (cmpR p.f0 e.f0 < 0) && bvF (some e) l
def bagV (l : List TEntry) : Bool := bvF none l && decide (l.length ≤ 4096)
def prevE (l : List TEntry) (i : Nat) : Option TEntry := if i = 0 then none else some (l.getD ((i - 1 : Nat) : Int).toNat dEntry)
def Fin (l : List TEntry) : Prop := l.length ≤ 9223372036854775807 ∧ ∀ e ∈ l, e.f0.length ≤ 9223372036854775807
theorem Fin.at {l : List TEntry} (h : Fin l) {i : Nat} (hi : i < l.length) : (l.getD (i : Int).toNat dEntry).f0.length ≤ 9223372036854775807 := h.2 _ (getD_mem _ hi)
theorem bag_Valid_ev (l : List TEntry) (hl : Fin l) : Ev (fun k => bag_Valid k l) (bagV l) := by
  unfold bag_Valid
  refine (loop_down (P := fun i => Ev (fun k => bag_Valid.p1 k l l (l.length : Int) (i : Int)) (bvF (prevE l i) (l.drop i) && decide (l.length ≤ 4096))) l.length ?_ ?_ 0 (by omega))
  · refine Ev.succ ?_
    simp only [bag_Valid.p1, decide_eq_true_eq]
    rw [List.drop_length]
    refine Ev.ite_neg (by omega) (Ev.done ?_)
    simp [bvF]; omega
  · intro i hi ih
    have hp : prevE l (i + 1) = some (l.getD (i : Int).toNat dEntry) := by simp [prevE]
    rw [hp] at ih
    refine Ev.succ ?_
    simp only [bag_Valid.p1, decide_eq_true_eq, beq_iff_eq]
    refine Ev.ite_pos (by omega) (Ev.ite_pos (by omega) (Ev.bind (entryFits_ev _ (hl.at hi)) ?_))
    rw [dE hi, wrn hi hl.1]
    cases hc : okE (l.getD (i : Int).toNat dEntry) with
    | false => refine Ev.ite_pos rfl (Ev.done ?_); unfold bvF; cases prevE l i <;> simp only [hc, Bool.false_and]
    | true =>
      refine Ev.ite_neg (by simp) ?_
      by_cases hz : (l.getD (i : Int).toNat dEntry).f1 = 0
      · refine Ev.ite_pos hz (Ev.done ?_); unfold bvF; cases prevE l i <;> simp only [hz, decide_true, Bool.not_true, Bool.and_false, Bool.false_and]
      · refine Ev.ite_neg hz ?_
        by_cases h0 : i = 0
        · subst h0
          refine Ev.ite_neg (by omega) (ih.to ?_)
          simp only [prevE, if_true, bvF, hc, decide_eq_false hz, Bool.not_false, Bool.and_self, Bool.true_and]
        · have hl1 := hl.1
          rw [wrp (by omega) (by omega)]
          refine Ev.ite_pos (by omega) (Ev.ite_pos (by omega) (Ev.bind (value_CompareRows_ev _ _ (hl.at (show i - 1 < l.length by omega))) ?_))
          simp only [prevE, if_neg h0, bvF, hc, decide_eq_false hz, Bool.not_false, Bool.true_and]
          by_cases hcmp : cmpR (l.getD ((i - 1 : Nat) : Int).toNat dEntry).f0 (l.getD (i : Int).toNat dEntry).f0 < 0
          · rw [decide_eq_true hcmp]; exact Ev.ite_neg (by omega) (by simpa using ih)
          · rw [decide_eq_false hcmp]; exact Ev.ite_pos (by omega) (Ev.now _)
end Go.Proofs.YtjhnpaenhdbhpaaV
set_option linter.unusedVariables false
set_option linter.unusedSimpArgs false
namespace Go.Proofs.YtjhnpaenhdbhpaaV
open Go Go.RowKit
theorem U_ext {x y : TPublished} (h0 : x.f0 = y.f0) (h1 : x.f1 = y.f1) : x = y := by cases x; cases y; simp_all
instance : DecidableEq TPublished := fun x y => decidable_of_iff (x.f0 = y.f0 ∧ x.f1 = y.f1) ⟨fun h => U_ext h.1 h.2, fun h => by subst h; exact ⟨rfl, rfl⟩⟩
theorem dU {l : List TPublished} {i : Nat} (h : i < l.length) : l.drop i = l.getD (i : Int).toNat dPublished :: l.drop (i + 1) := drop_cons _ h
theorem cleaned_ev (l : List TValue) (hl : l.length ≤ 1099511627776) : Ev (fun k => release_cleaned k l) (l.map clV) := by
  unfold release_cleaned
  have key : ∀ i, i ≤ l.length → ∀ acc : List TValue, acc.length = i → Ev (fun k => release_cleaned.p1 k l (i : Int) acc) (acc ++ (l.drop i).map clV) := by
    refine loop_down (P := fun i => ∀ acc : List TValue, acc.length = i → Ev (fun k => release_cleaned.p1 k l (i : Int) acc) (acc ++ (l.drop i).map clV)) l.length ?_ ?_
    · intro acc _
      refine Ev.succ ?_
      simp only [release_cleaned.p1, decide_eq_true_eq]
      rw [List.drop_length]
      exact Ev.ite_neg (by omega) (Ev.done (by simp))
    · intro i hi ih acc ha
      refine Ev.succ ?_
      simp only [release_cleaned.p1, value_Clean_eq, Option.bind_some, decide_eq_true_eq]
      refine Ev.ite_pos (by omega) (Ev.ite_pos (by omega) (Ev.ite_pos (by simp only [maxLen, List.length_singleton]; omega) ?_))
      rw [dV hi, wrn hi (by omega), List.map_cons]
      exact (ih (acc ++ [clV (l.getD (i : Int).toNat dValue)]) (by simp [ha])).to (by simp)
  exact key 0 (by omega) [] rfl
def pubE (T keys : Int) (e : TEntry) : Option TPublished :=
  if e.f1 = 1 ∧ keys < (e.f0.length : Int) ∧ (e.f0.getD keys.toNat dValue).f0 = 1 ∧ T ≤ (e.f0.getD keys.toNat dValue).f1 ∧ (e.f0.getD keys.toNat dValue).f1 ≤ 4294967296 then
    some ⟨(e.f0.take keys.toNat).map clV, (e.f0.getD keys.toNat dValue).f1 - Int.tmod (e.f0.getD keys.toNat dValue).f1 T⟩ else none
def pubS (T keys : Int) (l : List TEntry) : List TPublished := if T < 1 ∨ keys < 0 ∨ bagV l = false then [] else l.filterMap (pubE T keys)
theorem tmod_rng {n T : Int} (h1 : 1 ≤ T) (h2 : T ≤ n) : 0 ≤ Int.tmod n T ∧ Int.tmod n T < T := ⟨Int.tmod_nonneg _ (by omega), Int.tmod_lt_of_pos _ (by omega)⟩
theorem subL_zero {α : Type} (l : List α) (n : Int) : subL l (0 : Int) n = l.take n.toNat := by simp [subL]
theorem step_ev (T keys : Int) (hT : 1 ≤ T) (hk : 0 ≤ keys) (e : TEntry) (ys : List TPublished) (he : e.f0.length ≤ 1099511627776) (hy : ys.length ≤ 1099511627776) :
    Ev (fun k => release_Publish_1__x0 k e keys T ys) (keys, T, ys ++ (pubE T keys e).toList) := by
  unfold release_Publish_1__x0 pubE
  simp only [bne_iff_ne, ne_eq, ite_not, decide_eq_true_eq]
  by_cases c1 : e.f1 = 1
  · refine Ev.ite_pos c1 ?_
    by_cases c2 : keys < (e.f0.length : Int)
    · refine Ev.ite_neg (by omega) (Ev.ite_pos ⟨hk, c2⟩ ?_)
      by_cases c3 : (e.f0.getD keys.toNat dValue).f0 = 1
      · refine Ev.ite_pos c3 ?_
        by_cases c4 : (e.f0.getD keys.toNat dValue).f1 < T
        · refine Ev.ite_pos c4 (Ev.done ?_)
          rw [if_neg (fun h => by omega)]; simp
        · refine Ev.ite_neg c4 ?_
          by_cases c5 : (e.f0.getD keys.toNat dValue).f1 > 4294967296
          · refine Ev.ite_pos c5 (Ev.done ?_)
            rw [if_neg (fun h => by omega)]; simp
          · have hr := tmod_rng hT (show T ≤ (e.f0.getD keys.toNat dValue).f1 by omega)
            rw [subL_zero]
            refine Ev.ite_neg c5 (Ev.ite_pos (by omega) (Ev.bind (cleaned_ev _ (by rw [List.length_take]; omega)) ?_))
            refine Ev.ite_neg (by omega) (Ev.ite_pos (by simp only [maxLen, List.length_singleton]; omega) (Ev.done ?_))
            rw [if_pos ⟨c1, c2, c3, by omega, by omega⟩, wr (by omega)]
            rfl
      · refine Ev.ite_neg c3 (Ev.done ?_)
        rw [if_neg (fun h => c3 h.2.2.1)]; simp
    · refine Ev.ite_pos (by omega) (Ev.done ?_)
      rw [if_neg (fun h => c2 h.2.1)]; simp
  · refine Ev.ite_neg c1 (Ev.done ?_)
    rw [if_neg (fun h => c1 h.1)]; simp
theorem bvF_mem : ∀ (l : List TEntry) (p : Option TEntry), bvF p l = true → ∀ e ∈ l, okE e = true
  | [], _, _, e, he => by cases he
  | x :: l, p, h, e, he => by
    have h1 : okE x = true ∧ bvF (some x) l = true := by
      cases p <;> simp only [bvF, Bool.and_eq_true] at h
      · exact ⟨h.1.1, h.2⟩
      · exact ⟨h.1.1.1, h.2⟩
    rcases List.mem_cons.1 he with rfl | he
    · exact h1.1
    · exact bvF_mem l _ h1.2 e he
theorem bagV_mem {l : List TEntry} (h : bagV l = true) : ∀ e ∈ l, okE e = true := by
  simp only [bagV, Bool.and_eq_true] at h
  exact bvF_mem l none h.1
theorem bagV_len {l : List TEntry} (h : bagV l = true) : l.length ≤ 4096 := by
  simp only [bagV, Bool.and_eq_true, decide_eq_true_eq] at h
  exact h.2
theorem okE_len {e : TEntry} (h : okE e = true) : e.f0.length ≤ 16 := by
  simp only [okE, okRow, Bool.and_eq_true, decide_eq_true_eq] at h
  exact h.1.2
theorem Publish_ev (r : TRelease) (keys : Int) (l : List TEntry) (hl : Fin l) : Ev (fun k => release_Publish k r keys l) (pubS r.f2 keys l) := by
  unfold release_Publish pubS
  simp only [decide_eq_true_eq]
  by_cases c1 : r.f2 < 1
  · rw [if_pos (.inl c1)]; exact Ev.ite_pos c1 (Ev.now _)
  · refine Ev.ite_neg c1 ?_
    by_cases c2 : keys < 0
    · rw [if_pos (.inr (.inl c2))]; exact Ev.ite_pos c2 (Ev.now _)
    · refine Ev.ite_neg c2 (Ev.bind (bag_Valid_ev l hl) ?_)
      cases hb : bagV l with
      | false => rw [if_pos (by simp)]; exact Ev.ite_pos rfl (Ev.now _)
      | true =>
        rw [if_neg (by simp; omega)]
        refine Ev.ite_neg (by simp) ?_
        have hmem := bagV_mem hb
        have hlen := bagV_len hb
        have key : ∀ i, i ≤ l.length → ∀ acc : List TPublished, acc.length ≤ i → Ev (fun k => release_Publish.p1 k l (i : Int) keys r.f2 acc) (acc ++ (l.drop i).filterMap (pubE r.f2 keys)) := by
          refine loop_down (P := fun i => ∀ acc : List TPublished, acc.length ≤ i → Ev (fun k => release_Publish.p1 k l (i : Int) keys r.f2 acc) (acc ++ (l.drop i).filterMap (pubE r.f2 keys))) l.length ?_ ?_
          · intro acc _
            refine Ev.succ ?_
            simp only [release_Publish.p1, decide_eq_true_eq]
            rw [List.drop_length]
            exact Ev.ite_neg (by omega) (Ev.done (by simp))
          · intro i hi ih acc ha
            refine Ev.succ ?_
            simp only [release_Publish.p1, decide_eq_true_eq]
            have h16 := okE_len (hmem _ (getD_mem dEntry hi))
            refine Ev.ite_pos (by omega) (Ev.ite_pos (by omega) (Ev.bind (step_ev r.f2 keys (by omega) (by omega) _ acc (by omega) (by omega)) ?_))
            rw [dE hi, wrn hi (by omega)]
            have hle : (acc ++ (pubE r.f2 keys (l.getD (i : Int).toNat dEntry)).toList).length ≤ i + 1 := by cases pubE r.f2 keys (l.getD (i : Int).toNat dEntry) <;> simp <;> omega
            refine (ih (acc ++ (pubE r.f2 keys (l.getD (i : Int).toNat dEntry)).toList) hle).to ?_
            rw [List.filterMap_cons]
            cases pubE r.f2 keys (l.getD (i : Int).toNat dEntry) <;> simp
        exact key 0 (by omega) [] (by simp)
def FinU (l : List TPublished) : Prop := l.length ≤ 9223372036854775807 ∧ ∀ e ∈ l, e.f0.length ≤ 9223372036854775807
theorem pubE_len {T keys : Int} {e : TEntry} {u : TPublished} (h : pubE T keys e = some u) : u.f0.length ≤ e.f0.length := by
  unfold pubE at h
  split at h
  · rw [← Option.some.inj h]; simp; omega
  · cases h
theorem pubS_fin {T keys : Int} {l : List TEntry} (hl : Fin l) : FinU (pubS T keys l) := by
  unfold pubS
  split
  · exact ⟨by simp, fun e he => by cases he⟩
  · refine ⟨Nat.le_trans (List.length_filterMap_le _ _) hl.1, fun u hu => ?_⟩
    obtain ⟨e, he, h⟩ := List.mem_filterMap.1 hu
    exact Nat.le_trans (pubE_len h) (hl.2 e he)
end Go.Proofs.YtjhnpaenhdbhpaaV
set_option linter.unusedVariables false
set_option linter.unusedSimpArgs false
namespace Go.Proofs.YtjhnpaenhdbhpaaV
open Go Go.RowKit
theorem bits_mask_all (i : Nat) (hi : i < 63) (x : Int) : Go.bits .and .i64 x (2 ^ i - 1) = x % 2 ^ i := by
  have hpos : 0 < 2 ^ i := Nat.two_pow_pos i
  have hlt : 2 ^ i < 2 ^ 63 := Nat.pow_lt_pow_right (by decide) hi
  have hc : ((2 : Int) ^ i - 1) = ((2 ^ i - 1 : Nat) : Int) := by rw [Int.natCast_sub hpos]; simp
  rw [hc]
  unfold Go.bits
  have hb : (IntKind.i64).bits = 64 := rfl
  simp only [BitVec.toNat_and, BitVec.toNat_ofInt, BitVec.ofInt_natCast, BitVec.toNat_ofNat, hb]
  have h1 : (2 ^ i - 1) % 2 ^ 64 = 2 ^ i - 1 := Nat.mod_eq_of_lt (Nat.lt_of_lt_of_le (Nat.sub_lt hpos (by decide)) (Nat.le_of_lt (Nat.lt_trans hlt (by decide))))
  rw [h1, Nat.and_two_pow_sub_one_eq_mod]
  have h2 : (((x % ((2 ^ 64 : Nat) : Int)).toNat % 2 ^ i : Nat) : Int) = x % 2 ^ i := by
    rw [Int.natCast_emod, Int.toNat_of_nonneg (Int.emod_nonneg _ (by decide))]
    have hd : ((2 ^ i : Nat) : Int) ∣ ((2 ^ 64 : Nat) : Int) := by
      refine Int.natCast_dvd_natCast.2 (Nat.pow_dvd_pow 2 (by omega))
    rw [Int.emod_emod_of_dvd _ hd]
    simp
  rw [h2]
  have h3 : 0 ≤ x % 2 ^ i := Int.emod_nonneg _ (by have : (0 : Int) < 2 ^ i := by exact_mod_cast hpos
                                                   omega)
  have h4 : x % 2 ^ i < 2 ^ i := Int.emod_lt_of_pos _ (by exact_mod_cast hpos)
  have h5 : (2 : Int) ^ i < 2 ^ 63 := by exact_mod_cast hlt
  rw [IntKind.wrap_i64]
  omega
theorem and1023 (x : Int) : Go.bits .and .i64 x 1023 = x % 1024 := bits_mask_all 10 (by decide) x
theorem and511 (x : Int) : Go.bits .and .i64 x 511 = x % 512 := bits_mask_all 9 (by decide) x
theorem and15 (x : Int) : Go.bits .and .i64 x 15 = x % 16 := bits_mask_all 4 (by decide) x
theorem awake_ev : Ev (fun k => erasurelaw35_awake k) true := Ev.of (fun k k' hk h => erasurelaw35_awake.mono k k' true hk h) (k := 40) (by kernel_rfl)
def intV (n : Int) : TValue := ⟨1, n, ⟨#[]⟩⟩
theorem okV_int {n : Int} (h : -4294967296 ≤ n ∧ n ≤ 4294967296) : okV (intV n) = true := by
  unfold okV intV
  rw [if_neg (show ¬ ((1 : Int) = 0) by decide), if_pos rfl]
  simp [h]
theorem ref01_Int_eq (k : Nat) {n : Int} (h : -4294967296 ≤ n ∧ n ≤ 4294967296) : erasureref01_Int k n = some (intV n) := by
  unfold erasureref01_Int
  have := ref01_Clean_eq k (intV n)
  rw [clV_ok (okV_int h)] at this
  have e : erasureref01_Clean k (TValue.mk 1 n ⟨#[]⟩) = some (intV n) := this
  rw [e]; rfl
def rowG (i : Nat) (n : Int) : TEntry := ⟨[intV i, intV n], 1⟩
def grpS : Nat → List Int → List TEntry
  | _, [] => []
  | i, c :: l => if i < 40 then (if c % 1024 > 0 then [rowG i (c % 1024)] else []) ++ grpS (i + 1) l else []
theorem rd_at (l : List Int) {i : Nat} (h : i < l.length) : l.drop i = l.getD (i : Int).toNat 0 :: l.drop (i + 1) := drop_cons 0 h
theorem grpS_over : ∀ (l : List Int) (i : Nat), ¬ i < 40 → grpS i l = []
  | [], _, _ => rfl
  | _ :: _, _, h => by unfold grpS; rw [if_neg h]
theorem Groups_ev (l : List Int) (hl : l.length ≤ 9223372036854775807) : Ev (fun k => erasurelaw35_Groups k l) (grpS 0 l) := by
  unfold erasurelaw35_Groups
  have key : ∀ i, i ≤ l.length → ∀ acc : List TEntry, acc.length ≤ 40 → acc.length ≤ i → Ev (fun k => erasurelaw35_Groups.p1 k l (i : Int) acc) (acc ++ grpS i (l.drop i)) := by
    refine loop_down (P := fun i => ∀ acc : List TEntry, acc.length ≤ 40 → acc.length ≤ i → Ev (fun k => erasurelaw35_Groups.p1 k l (i : Int) acc) (acc ++ grpS i (l.drop i))) l.length ?_ ?_
    · intro acc _ _
      refine Ev.succ ?_
      simp only [erasurelaw35_Groups.p1, decide_eq_true_eq]
      rw [List.drop_length]
      exact Ev.ite_neg (by omega) (Ev.done (by simp [grpS]))
    · intro i hi ih acc h1 h2
      refine Ev.succ ?_
      simp only [erasurelaw35_Groups.p1, decide_eq_true_eq, and1023]
      refine Ev.ite_pos (by omega) ?_
      by_cases h40 : i < 40
      · refine Ev.ite_pos (by omega) (Ev.ite_pos (by omega) ?_)
        rw [rd_at l hi, wrn hi hl]
        unfold grpS
        rw [if_pos h40]
        have hm : 0 ≤ l.getD (i : Int).toNat 0 % 1024 ∧ l.getD (i : Int).toNat 0 % 1024 < 1024 := by omega
        by_cases hg : l.getD (i : Int).toNat 0 % 1024 > 0
        · rw [if_pos hg]
          refine Ev.ite_pos hg ?_
          simp only [ref01_Int_eq _ (show -4294967296 ≤ (i : Int) ∧ (i : Int) ≤ 4294967296 by omega), ref01_Int_eq _ (show -4294967296 ≤ l.getD (i : Int).toNat 0 % 1024 ∧ l.getD (i : Int).toNat 0 % 1024 ≤ 4294967296 by omega), Option.bind_some]
          refine Ev.ite_pos (by simp only [maxLen, List.length_singleton]; omega) ?_
          exact (ih (acc ++ [rowG i (l.getD (i : Int).toNat 0 % 1024)]) (by simp; omega) (by simp; omega)).to (by simp)
        · rw [if_neg hg]
          exact Ev.ite_neg hg (by simpa using ih acc h1 (by omega))
      · rw [grpS_over _ _ h40]
        exact Ev.ite_neg (by omega) (Ev.done (by simp))
  exact key 0 (by omega) [] (by simp) (by simp)
theorem ref22_SameRow_ev (a b : List TValue) (ha : a.length ≤ 9223372036854775807) : Ev (fun k => erasureref22_SameRow k a b) (decide (a = b)) := by
  unfold erasureref22_SameRow
  simp only [bne_iff_ne, ne_eq, ite_not]
  by_cases hl : a.length = b.length
  · refine Ev.ite_pos (by omega) ?_
    refine (loop_down (P := fun i => Ev (fun k => erasureref22_SameRow.p1 k a b (i : Int)) (decide (a.drop i = b.drop i))) a.length ?_ ?_ 0 (by omega))
    · refine Ev.succ ?_
      simp only [erasureref22_SameRow.p1, decide_eq_true_eq]
      rw [List.drop_length, List.drop_eq_nil_of_le (show b.length ≤ a.length by omega)]
      exact Ev.ite_neg (by omega) (Ev.done (by simp))
    · intro i hi ih
      refine Ev.succ ?_
      simp only [erasureref22_SameRow.p1, eqV_iff, decide_eq_true_eq, Bool.not_eq_true', decide_eq_false_iff_not]
      refine Ev.ite_pos (by omega) (Ev.ite_pos (by omega) (Ev.ite_pos (by omega) ?_))
      rw [dV hi, dV (show i < b.length by omega), wrn hi ha]
      by_cases h : a.getD (i : Int).toNat dValue = b.getD (i : Int).toNat dValue
      · exact Ev.ite_neg (fun e => e h) (ih.to (by rw [h]; simp))
      · exact Ev.ite_pos h (Ev.done (by rw [decide_eq_false]; intro e; exact h (List.cons.inj e).1))
  · refine Ev.ite_neg (by omega) (Ev.done ?_)
    rw [decide_eq_false (fun e => hl (by rw [e]))]
theorem ref26_SameRow_ev (a b : List TValue) (ha : a.length ≤ 9223372036854775807) : Ev (fun k => erasureref26_SameRow k a b) (decide (a = b)) := by
  unfold erasureref26_SameRow
  exact Ev.bind (ref22_SameRow_ev a b ha) (Ev.now _)
theorem Same_ev (a b : List TPublished) (ha : FinU a) : Ev (fun k => erasureref35_Same k a b) (decide (a = b)) := by
  unfold erasureref35_Same
  simp only [bne_iff_ne, ne_eq, ite_not]
  by_cases hl : a.length = b.length
  · refine Ev.ite_pos (by omega) ?_
    refine (loop_down (P := fun i => Ev (fun k => erasureref35_Same.p1 k a b (i : Int)) (decide (a.drop i = b.drop i))) a.length ?_ ?_ 0 (by omega))
    · refine Ev.succ ?_
      simp only [erasureref35_Same.p1, decide_eq_true_eq]
      rw [List.drop_length, List.drop_eq_nil_of_le (show b.length ≤ a.length by omega)]
      exact Ev.ite_neg (by omega) (Ev.done (by simp))
    · intro i hi ih
      refine Ev.succ ?_
      simp only [erasureref35_Same.p1, decide_eq_true_eq, bne_iff_ne, ne_eq, ite_not]
      refine Ev.ite_pos (by omega) (Ev.ite_pos (by omega) (Ev.ite_pos (by omega) ?_))
      rw [dU hi, dU (show i < b.length by omega), wrn hi ha.1]
      by_cases h1 : (a.getD (i : Int).toNat dPublished).f1 = (b.getD (i : Int).toNat dPublished).f1
      · refine Ev.ite_pos h1 (Ev.bind (ref26_SameRow_ev _ _ (ha.2 _ (getD_mem _ hi))) ?_)
        by_cases h0 : (a.getD (i : Int).toNat dPublished).f0 = (b.getD (i : Int).toNat dPublished).f0
        · rw [decide_eq_true h0]
          exact Ev.ite_neg (by simp) (ih.to (by rw [U_ext h0 h1]; simp))
        · rw [decide_eq_false h0]
          refine Ev.ite_pos rfl (Ev.done ?_)
          rw [decide_eq_false]
          intro e; exact h0 (by rw [(List.cons.inj e).1])
      · refine Ev.ite_neg h1 (Ev.done ?_)
        rw [decide_eq_false]
        intro e; exact h1 (by rw [(List.cons.inj e).1])
  · refine Ev.ite_neg (by omega) (Ev.done ?_)
    rw [decide_eq_false (fun e => hl (by rw [e]))]
theorem limit_eq (k : Nat) (n : Int) : erasurelaw35_limit k n = some ⟨⟨#[]⟩, ⟨#[]⟩, 1 + n % 16⟩ := by
  unfold erasurelaw35_limit
  rw [and15, wr (by omega)]
end Go.Proofs.YtjhnpaenhdbhpaaV
set_option linter.unusedVariables false
set_option linter.unusedSimpArgs false
namespace Go.Proofs.YtjhnpaenhdbhpaaV
open Go Go.RowKit
def IsG : Nat → List TEntry → Prop
  | _, [] => True
  | i, e :: l => ∃ (a : Nat) (n : Int), i ≤ a ∧ a < 40 ∧ 0 < n ∧ n < 1024 ∧ e = rowG a n ∧ IsG (a + 1) l
theorem IsG.le : ∀ {l : List TEntry} {i j : Nat}, IsG j l → i ≤ j → IsG i l
  | [], _, _, _, _ => trivial
  | _ :: _, _, _, ⟨a, n, h1, h2, h3, h4, h5, h6⟩, h => ⟨a, n, by omega, h2, h3, h4, h5, h6⟩
theorem grpS_is : ∀ (l : List Int) (i : Nat), IsG i (grpS i l)
  | [], _ => trivial
  | c :: l, i => by
    unfold grpS
    by_cases h : i < 40
    · rw [if_pos h]
      by_cases hc : c % 1024 > 0
      · rw [if_pos hc]
        exact ⟨i, c % 1024, Nat.le_refl _, h, hc, by omega, rfl, grpS_is l (i + 1)⟩
      · rw [if_neg hc]
        exact (grpS_is l (i + 1)).le (by omega)
    · rw [if_neg h]; trivial
theorem cmpV_int {a b : Int} (ha : -4294967296 ≤ a ∧ a ≤ 4294967296) (hb : -4294967296 ≤ b ∧ b ≤ 4294967296) : cmpV (intV a) (intV b) = cmpI a b := by
  unfold cmpV
  rw [clV_ok (okV_int ha), clV_ok (okV_int hb)]
  rfl
theorem okE_rowG {a : Nat} {n : Int} (ha : a < 40) (hn : 0 < n ∧ n < 1024) : okE (rowG a n) = true := by
  unfold okE okRow rowG
  simp [okV_int (show -4294967296 ≤ (a : Int) ∧ (a : Int) ≤ 4294967296 by omega), okV_int (show -4294967296 ≤ n ∧ n ≤ 4294967296 by omega)]
theorem IsG.bvF_true : ∀ {l : List TEntry} {i : Nat} (p : Option TEntry), IsG i l → (∀ e, p = some e → ∃ (a : Nat) (n : Int), a < i ∧ a < 40 ∧ 0 < n ∧ n < 1024 ∧ e = rowG a n) → bvF p l = true
  | [], _, p, _, _ => by cases p <;> rfl
  | e :: l, i, p, ⟨a, n, h1, h2, h3, h4, h5, h6⟩, hp => by
    subst h5
    have ht := IsG.bvF_true (some (rowG a n)) h6 (fun e he => ⟨a, n, by omega, h2, h3, h4, (Option.some.inj he).symm⟩)
    have hk := okE_rowG h2 ⟨h3, h4⟩
    cases p with
    | none => simp only [bvF, hk, ht]; simp [rowG]
    | some q =>
      obtain ⟨b, m, b1, b2, b3, b4, rfl⟩ := hp q rfl
      have hc : cmpR (rowG b m).f0 (rowG a n).f0 < 0 := by
        show cmpR [intV b, intV m] [intV a, intV n] < 0
        unfold cmpR
        have e1 : cmpV (intV b) (intV a) = cmpI b a := cmpV_int (by omega) (by omega)
        have e2 : cmpI (b : Int) (a : Int) < 0 := cmpI_neg.2 (by omega)
        rw [e1, if_neg (by omega)]; exact e2
      simp only [bvF, hk, ht, decide_eq_true hc]; simp [rowG]
theorem IsG.len : ∀ {l : List TEntry} {i : Nat}, IsG i l → l.length + i ≤ 40 ∨ l = []
  | [], _, _ => .inr rfl
  | e :: l, i, ⟨a, n, h1, h2, h3, h4, h5, h6⟩ => by
    rcases h6.len with h | h
    · left; simp; omega
    · subst h; left; simp; omega
theorem IsG.len40 {l : List TEntry} {i : Nat} (h : IsG i l) : l.length ≤ 40 := by
  rcases h.len with h | h
  · omega
  · subst h; simp
theorem IsG.bagV_true {l : List TEntry} {i : Nat} (h : IsG i l) : bagV l = true := by
  unfold bagV
  rw [h.bvF_true none (fun e he => by cases he), decide_eq_true (by have := h.len40; omega)]; rfl
theorem IsG.fin {l : List TEntry} {i : Nat} (h : IsG i l) : Fin l := by
  refine ⟨by have := h.len40; omega, fun e he => ?_⟩
  have := okE_len (bagV_mem h.bagV_true e he)
  omega
def pubG (T : Int) (a : Nat) (n : Int) : TPublished := ⟨[intV a], n - Int.tmod n T⟩
theorem pubE_rowG {T : Int} {a : Nat} {n : Int} (ha : a < 40) (hn : 0 < n ∧ n < 1024) : pubE T 1 (rowG a n) = if T ≤ n then some (pubG T a n) else none := by
  unfold pubE rowG pubG
  have e1 : [intV a, intV n].getD (Int.toNat 1) dValue = intV n := rfl
  simp only [e1, List.length_cons, List.length_nil]
  have e2 : (List.take (Int.toNat 1) [intV a, intV n]).map clV = [intV a] := by
    show [clV (intV a)] = [intV a]
    rw [clV_ok (okV_int (by omega))]
  rw [e2]
  by_cases h : T ≤ n
  · rw [if_pos ⟨trivial, by omega, rfl, h, by show n ≤ _; omega⟩, if_pos h]; rfl
  · rw [if_neg (fun x => h x.2.2.2.1), if_neg h]
theorem pubS_grp {T : Int} (hT : 1 ≤ T) {l : List TEntry} {i : Nat} (h : IsG i l) : pubS T 1 l = l.filterMap (pubE T 1) := by
  unfold pubS
  rw [if_neg (by rw [h.bagV_true]; simp; omega)]
end Go.Proofs.YtjhnpaenhdbhpaaV
set_option linter.unusedVariables false
set_option linter.unusedSimpArgs false
namespace Go.Proofs.YtjhnpaenhdbhpaaV
open Go Go.RowKit
def alike (T x y : Int) : Prop := (T ≤ x % 1024 ∧ T ≤ y % 1024 ∧ x % 1024 - (x % 1024).tmod T = y % 1024 - (y % 1024).tmod T) ∨ (x % 1024 < T ∧ y % 1024 < T)
theorem alike.refl (T x : Int) : alike T x x := by
  by_cases h : T ≤ x % 1024
  · exact .inl ⟨h, h, rfl⟩
  · exact .inr ⟨by omega, by omega⟩
theorem alike_pub {T : Int} (hT : 1 ≤ T) : ∀ (C O : List Int) (i : Nat), C.length = O.length → (∀ j, j < C.length → alike T (C.getD j 0) (O.getD j 0)) → (grpS i C).filterMap (pubE T 1) = (grpS i O).filterMap (pubE T 1)
  | [], [], _, _, _ => rfl
  | [], _ :: _, _, h, _ => by simp at h
  | _ :: _, [], _, h, _ => by simp at h
  | x :: C, y :: O, i, hl, h => by
    have ih := alike_pub hT C O (i + 1) (by simpa using hl) (fun j hj => by have := h (j + 1) (by simpa using hj); simpa using this)
    have h0 : alike T x y := by have := h 0 (by simp); simpa using this
    unfold grpS
    by_cases hi : i < 40
    · rw [if_pos hi, if_pos hi]
      have one : ∀ z : Int, (if z % 1024 > 0 then [rowG i (z % 1024)] else []).filterMap (pubE T 1) = if T ≤ z % 1024 then [pubG T i (z % 1024)] else [] := by
        intro z
        by_cases hz : z % 1024 > 0
        · rw [if_pos hz, List.filterMap_cons, pubE_rowG hi ⟨hz, by omega⟩]
          by_cases hT' : T ≤ z % 1024
          · rw [if_pos hT', if_pos hT']; rfl
          · rw [if_neg hT', if_neg hT']; rfl
        · rw [if_neg hz, if_neg (by omega)]; rfl
      rw [List.filterMap_append, List.filterMap_append, one, one, ih]
      rcases h0 with ⟨h1, h2, h3⟩ | ⟨h1, h2⟩
      · rw [if_pos h1, if_pos h2]; unfold pubG; rw [h3]
      · rw [if_neg (by omega), if_neg (by omega)]
    · rw [if_neg hi, if_neg hi]
theorem wrapu (x : Int) : IntKind.u64.wrap x = x % 18446744073709551616 := by simp only [IntKind.wrap]; rfl
theorem noise_rng {T m : Int} (h1 : 1 ≤ T) (h2 : T ≤ 16) : 0 ≤ (IntKind.u64.wrap m).tmod T ∧ (IntKind.u64.wrap m).tmod T < T := by
  have h0 : 0 ≤ IntKind.u64.wrap m := by rw [wrapu]; omega
  exact ⟨Int.tmod_nonneg _ h0, Int.tmod_lt_of_pos _ (by omega)⟩
theorem alike_step {T c m : Int} (h1 : 1 ≤ T) (h2 : T ≤ 16) (hm : 0 ≤ m ∧ m < T) : alike T (c % 512) (c % 512 - (c % 512).tmod T + m) := by
  have hc : 0 ≤ c % 512 ∧ c % 512 < 512 := by omega
  generalize c % 512 = c at *
  have e : c.tmod T = c % T := Int.tmod_eq_emod_of_nonneg hc.1
  rw [e]
  have hr : 0 ≤ c % T ∧ c % T < T := ⟨Int.emod_nonneg _ (by omega), Int.emod_lt_of_pos _ (by omega)⟩
  have hle : c % T ≤ c := by
    have := Int.mul_ediv_add_emod c T
    have hq : 0 ≤ c / T := Int.ediv_nonneg hc.1 (by omega)
    have : 0 ≤ T * (c / T) := Int.mul_nonneg (by omega) hq
    omega
  have hb : c % 1024 = c := by omega
  have hb2 : (c - c % T + m) % 1024 = c - c % T + m := by omega
  unfold alike
  rw [hb, hb2, Int.tmod_eq_emod_of_nonneg hc.1, Int.tmod_eq_emod_of_nonneg (show 0 ≤ c - c % T + m by omega)]
  have hm2 : (c - c % T + m) % T = m := by
    have e1 : c - c % T = T * (c / T) := by have := Int.mul_ediv_add_emod c T; omega
    rw [e1, Int.add_comm, Int.add_mul_emod_self_left, Int.emod_eq_of_lt hm.1 hm.2]
  rw [hm2]
  by_cases hT : T ≤ c
  · refine .inl ⟨hT, ?_, by omega⟩
    have hq : 1 ≤ c / T := by
      have := Int.le_ediv_of_mul_le (show 0 < T by omega) (show 1 * T ≤ c by omega)
      omega
    have e1 : c - c % T = T * (c / T) := by have := Int.mul_ediv_add_emod c T; omega
    have : T * 1 ≤ T * (c / T) := Int.mul_le_mul_of_nonneg_left hq (by omega)
    omega
  · refine .inr ⟨by omega, ?_⟩
    have : c % T = c := Int.emod_eq_of_lt hc.1 (by omega)
    omega
theorem getD_mid (C : List Int) (i j : Nat) (c : Int) (hi : i < C.length) : ((C.take i ++ [c]) ++ C.drop (i + 1)).getD j 0 = if j = i then c else C.getD j 0 := by
  rw [List.getD_eq_getElem?_getD, List.getD_eq_getElem?_getD]
  have hl : (C.take i ++ [c]).length = i + 1 := by simp; omega
  rcases Nat.lt_trichotomy j i with h | h | h
  · rw [if_neg (by omega), List.getElem?_append_left (by omega), List.getElem?_append_left (by simp; omega), List.getElem?_take, if_pos h]
  · subst h
    rw [if_pos rfl, List.getElem?_append_left (by omega), List.getElem?_append_right (by simp; omega)]
    simp; rw [show j - min j C.length = 0 from by omega]; rfl
  · rw [if_neg (by omega), List.getElem?_append_right (by omega), hl, List.getElem?_drop, show i + 1 + (j - (i + 1)) = j from by omega]
theorem getD_set' (O : List Int) (i j : Nat) (o : Int) (hi : i < O.length) : (O.set i o).getD j 0 = if j = i then o else O.getD j 0 := by
  rw [List.getD_eq_getElem?_getD, List.getD_eq_getElem?_getD, List.getElem?_set]
  by_cases h : i = j
  · subst h; simp [hi]
  · rw [if_neg h, if_neg (Ne.symm h)]
theorem hides_loop (noise : List Int) (r : TRelease) (h1 : 1 ≤ r.f2) (h2 : r.f2 ≤ 16) (n : Nat) (hn : n * 8 ≤ 140737488351232) (hz : noise.length ≤ 9223372036854775807) : ∀ i, i ≤ n → ∀ C O : List Int, C.length = n → O.length = n → (∀ j, j < C.length → alike r.f2 (C.getD j 0) (O.getD j 0)) →
    Ev (fun k => erasurelaw35_ReleaseHides.p1 k C noise (i : Int) r O) true := by
  have hend : ∀ C O : List Int, C.length = n → O.length = n → (∀ j, j < C.length → alike r.f2 (C.getD j 0) (O.getD j 0)) →
      Ev (fun k => (erasurelaw35_Groups k C).bind fun y_15 => ((release_Publish k r 1 y_15).bind fun y_17 => ((erasurelaw35_Groups k O).bind fun y_19 => ((release_Publish k r 1 y_19).bind fun y_21 => ((erasureref35_Same k y_17 y_21).bind fun y_23 => (if y_23 = true then ((erasurelaw35_awake k ).bind fun y_26 => (some y_26)) else (some false))))))) true := by
    intro C O hC hO ha
    refine Ev.bind (Groups_ev C (by omega)) (Ev.bind (Publish_ev r 1 _ (grpS_is C 0).fin) (Ev.bind (Groups_ev O (by omega)) (Ev.bind (Publish_ev r 1 _ (grpS_is O 0).fin) (Ev.bind (Same_ev _ _ (pubS_fin (grpS_is C 0).fin)) ?_))))
    have e : pubS r.f2 1 (grpS 0 C) = pubS r.f2 1 (grpS 0 O) := by
      rw [pubS_grp h1 (grpS_is C 0), pubS_grp h1 (grpS_is O 0)]
      exact alike_pub h1 C O 0 (by omega) ha
    rw [decide_eq_true e]
    exact Ev.ite_pos rfl (Ev.bind awake_ev (Ev.now _))
  refine loop_down (P := fun i => ∀ C O : List Int, C.length = n → O.length = n → (∀ j, j < C.length → alike r.f2 (C.getD j 0) (O.getD j 0)) → Ev (fun k => erasurelaw35_ReleaseHides.p1 k C noise (i : Int) r O) true) n ?_ ?_
  · intro C O hC hO ha
    refine Ev.succ ?_
    simp only [erasurelaw35_ReleaseHides.p1, decide_eq_true_eq]
    exact Ev.ite_neg (by omega) (hend C O hC hO ha)
  · intro i hi ih C O hC hO ha
    refine Ev.succ ?_
    simp only [erasurelaw35_ReleaseHides.p1, decide_eq_true_eq, and511]
    refine Ev.ite_pos (by omega) ?_
    by_cases hm : i < noise.length
    · have hu : IntKind.u64.wrap r.f2 = r.f2 := by rw [wrapu]; omega
      have e1 : subL C (0 : Int) (i : Int) = C.take i := by simp [subL]
      have e2 : subL C (((i + 1 : Nat) : Int)) (C.length : Int) = C.drop (i + 1) := by simp [subL]
      have hw : IntKind.i64.wrap ((i : Int) + 1) = ((i + 1 : Nat) : Int) := wrn hi (by omega)
      have hl1 : (C.take i).length = i := by simp; omega
      have hl2 : (C.drop (i + 1)).length = n - (i + 1) := by simp; omega
      simp only [hu, hw, e1, e2, List.nil_append]
      refine Ev.ite_pos (by omega) (Ev.ite_pos (by omega) (Ev.ite_pos (by omega) (Ev.ite_pos (by omega) (Ev.ite_pos (by omega) (Ev.ite_pos (by omega) ?_)))))
      refine Ev.ite_pos (by simp only [maxLen, List.length_nil, hl1]; omega) (Ev.ite_pos (by simp only [maxLen, List.length_singleton, hl1]; omega) (Ev.ite_pos (by omega) (Ev.ite_pos (by simp only [maxLen, List.length_append, List.length_singleton, hl1, hl2]; omega) ?_)))
      have hr := noise_rng (m := noise.getD (i : Int).toNat 0) h1 h2
      have hc : 0 ≤ O.getD (i : Int).toNat 0 % 512 ∧ O.getD (i : Int).toNat 0 % 512 < 512 := by omega
      have ht : 0 ≤ (O.getD (i : Int).toNat 0 % 512).tmod r.f2 ∧ (O.getD (i : Int).toNat 0 % 512).tmod r.f2 ≤ O.getD (i : Int).toNat 0 % 512 := by
        rw [Int.tmod_eq_emod_of_nonneg hc.1]
        exact ⟨Int.emod_nonneg _ (by omega), by
          have := Int.mul_ediv_add_emod (O.getD (i : Int).toNat 0 % 512) r.f2
          have hq : 0 ≤ (O.getD (i : Int).toNat 0 % 512) / r.f2 := Int.ediv_nonneg hc.1 (by omega)
          have : 0 ≤ r.f2 * ((O.getD (i : Int).toNat 0 % 512) / r.f2) := Int.mul_nonneg (by omega) hq
          omega⟩
      rw [wr (n := (IntKind.u64.wrap (noise.getD (i : Int).toNat 0)).tmod r.f2) (by omega), wr (n := O.getD (i : Int).toNat 0 % 512 - (O.getD (i : Int).toNat 0 % 512).tmod r.f2) (by omega), wr (by omega)]
      refine ih _ _ (by simp only [List.length_append, List.length_singleton, hl1, hl2]; omega) (by simp [hO]) (fun j hj => ?_)
      rw [getD_mid C i j _ (by omega), Int.toNat_natCast, getD_set' O i j _ (by omega)]
      by_cases hji : j = i
      · rw [if_pos hji, if_pos hji]; exact alike_step h1 h2 hr
      · rw [if_neg hji, if_neg hji]
        refine ha j ?_
        simp only [List.length_append, List.length_singleton, hl1, hl2] at hj
        omega
    · exact Ev.ite_neg (by omega) (hend C O hC hO ha)
theorem ReleaseHides_std (x0 : Int) (x1 : (List Int)) (x2 : (List Int)) (h0 : (Lit.int .i64 x0).wf = true) (h1 : (x1.length ≤ maxLen ∧ ∀ e0 ∈ x1, (Lit.int .i64 e0).wf = true)) (h2 : (x2.length ≤ maxLen ∧ ∀ e0 ∈ x2, (Lit.int .i64 e0).wf = true)) (s1 : x1.length * 8 ≤ 140737488351232) : ∃ k, erasurelaw35_ReleaseHides k x0 x1 x2 = some true := by
  refine Ev.some (g := fun k => erasurelaw35_ReleaseHides k x0 x1 x2) ?_
  unfold erasurelaw35_ReleaseHides
  simp only [limit_eq, Option.bind_some, List.nil_append]
  refine Ev.ite_pos (by simp only [maxLen, List.length_nil]; omega) ?_
  exact hides_loop x2 ⟨⟨#[]⟩, ⟨#[]⟩, 1 + x0 % 16⟩ (by show (1 : Int) ≤ 1 + x0 % 16; omega) (by show 1 + x0 % 16 ≤ (16 : Int); omega) x1.length s1 (by have := h2.1; simp only [maxLen] at this; omega) 0 (by omega) x1 x1 rfl rfl (fun j _ => alike.refl _ _)
end Go.Proofs.YtjhnpaenhdbhpaaV
set_option linter.unusedVariables false
set_option linter.unusedSimpArgs false
set_option linter.constructorNameAsVariable false
namespace Go.Proofs.YtjhnpaenhdbhpaaV
open Go Go.RowKit
def RepL (F : Nat → Prop) (w : World) : List AV → List Value → Prop
  | [], [] => True
  | a :: l, v :: m => Rep F w a v ∧ RepL F w l m
  | _, _ => False
theorem RepL.len {F : Nat → Prop} {w : World} : ∀ {l : List AV} {m : List Value}, RepL F w l m → l.length = m.length
  | [], [], _ => rfl
  | _ :: _, _ :: _, h => by simp [RepL.len h.2]
  | [], _ :: _, h => h.elim
  | _ :: _, [], h => h.elim
theorem RepL.get {F : Nat → Prop} {w : World} : ∀ {l : List AV} {m : List Value}, RepL F w l m → ∀ (i : Nat) (v : Value), m[i]? = some v → Rep F w (l.getD i .u) v
  | [], [], _, i, v, h => by simp at h
  | a :: l, u :: m, h, i, v, hv => by
    cases i with
    | zero =>
      simp only [List.getElem?_cons_zero, Option.some.injEq] at hv
      subst hv
      exact h.1
    | succ i => simpa using RepL.get h.2 i v (by simpa using hv)
  | [], _ :: _, h, _, _, _ => h.elim
  | _ :: _, [], h, _, _, _ => h.elim
theorem RepL.fv {F : Nat → Prop} {w : World} {κ : Nat → Value} {hp : List Ob} : ∀ {l : List AV} {m : List Value}, RepL F w l m → RelVs ⟨F, w, κ, hp⟩ (l.map .p) m
  | [], [], _ => by simp [RelVs]
  | a :: l, v :: m, h => by simp only [List.map_cons, RelVs]; exact ⟨v, m, rfl, by simp only [RelV]; exact h.1, RepL.fv h.2⟩
  | [], _ :: _, h => h.elim
  | _ :: _, [], h => h.elim
abbrev oldF (W : World) : Nat → Prop := fun b => b < W.heap.size
structure Op1 {α : Type} (P : Program) (t : TypeId) (c : α → List AV) (B : α → Prop) : Prop where mk ::
  out : ∀ {H : Type} (enc : TypeId × Value → H) (W : World) (fuel : Nat) (cs : List Value) (y : DataW H × List MemPlace), DataW.trod enc P W 0 (fun _ => true) true fuel t cs = some y → ∃ x, RepL (oldF W) W (c x) cs ∧ B x
theorem op1_int {P : Program} {t : TypeId} {k : IntKind} (ht : P.underlying t = some (.int k)) : Op1 P t (cI k) (fun n => (Lit.int k n).wf = true) := by
  constructor
  intro H enc W fuel cs y h
  obtain ⟨n, rfl, _, hw⟩ := DataW.trod_int ht h
  exact ⟨n, ⟨rfl, trivial⟩, hw⟩
theorem cell_add {W : World} {a : Addr} {n : Nat} {u : Value} (h : W.cell? (a.add n) = some u) : W.cell? ⟨a.block, a.off + n, none⟩ = some u := by
  unfold Addr.add at h
  split at h
  · rename_i hn
    subst hn
    have hs : a.spot = none := by
      unfold World.cell? at h
      split at h
      · split at h
        · cases h
        · rename_i hs; cases hq : a.spot with
          | none => rfl
          | some x => simp [hq] at hs
      · cases h
    cases a
    simp only at hs
    subst hs
    exact h
  · exact h
theorem spot_none {W : World} {a : Addr} {u : Value} (h : W.cell? a = some u) : a = ⟨a.block, a.off, none⟩ := by
  have hs : a.spot = none := by
    unfold World.cell? at h
    split at h
    · split at h
      · cases h
      · rename_i hs; cases hq : a.spot with
        | none => rfl
        | some x => simp [hq] at hs
    · cases h
  cases a
  simp only at hs
  subst hs
  rfl
theorem op1_slice {α : Type} {P : Program} {t e : TypeId} {sz : Nat} {c : α → List AV} (d : α) {B : α → Prop} (ht : P.underlying t = some (.slice e)) (hd : Op1 P e c B) (hc : P.cellsOf e = sz) (hs : ∀ x, (c x).length = sz) (h0 : 0 < sz) : Op1 P t (cL sz c d) (fun xs => xs.length ≤ maxLen ∧ ∀ x ∈ xs, B x) := by
  constructor
  intro H enc W fuel cs y h
  rcases DataW.trod_slice ht h with ⟨rfl, _⟩ | ⟨a, len, cap, elems, rest, n, _, rfl, _, _, hl, hm, hel, hat, _, _⟩
  · exact ⟨[], ⟨⟨none, 0, rfl, Nat.le_refl _, fun _ => rfl, .inl rfl⟩, trivial⟩, by simp [maxLen], fun x hx => by cases hx⟩
  · have key : ∀ i, i < len → ∃ x cs', cs'.length = sz ∧ RepL (oldF W) W (c x) cs' ∧ B x ∧ ∀ j u, cs'[j]? = some u → W.cell? (a.add (i * sz + j)) = some u := by
      intro i hi
      have h1 := hat i hi
      rw [List.getElem?_eq_getElem (by omega)] at h1
      obtain ⟨cs', h2, h3⟩ := Option.bind_eq_some_iff.1 h1
      obtain ⟨x, hk, hb⟩ := hd.out enc W n cs' _ h3
      have hlen : cs'.length = sz := by rw [← hs x, hk.len]
      refine ⟨x, cs', hlen, hk, hb, fun j u hu => ?_⟩
      rw [hc] at h2
      unfold World.cells? at h2
      rw [if_pos (Nat.zero_le _)] at h2
      have h4 := mapM_some_get h2 j j (by
        have := (List.getElem?_eq_some_iff.1 hu).1
        rw [hlen] at this
        simp [this])
      rw [hu] at h4
      have ha : (a.add (i * sz)).add j = a.add (i * sz + j) := by
        unfold Addr.add
        by_cases e1 : i * sz = 0 <;> by_cases e2 : j = 0 <;> simp [e1, e2, Nat.add_assoc]
      rw [ha] at h4
      exact h4
    have key2 : ∀ m, m ≤ len → ∃ xs : List α, xs.length = m ∧ (∀ x ∈ xs, B x) ∧ ∀ i x, xs[i]? = some x → ∃ cs', cs'.length = sz ∧ RepL (oldF W) W (c x) cs' ∧ ∀ j u, cs'[j]? = some u → W.cell? (a.add (i * sz + j)) = some u := by
      intro m
      induction m with
      | zero => intro _; exact ⟨[], rfl, fun x hx => (by cases hx), fun i x hx => by simp at hx⟩
      | succ m ih =>
        intro hm2
        obtain ⟨xs, h1, h2, h3⟩ := ih (by omega)
        obtain ⟨x, c', h4, h5, h6, h7⟩ := key m (by omega)
        refine ⟨xs ++ [x], by simp [h1], fun y hy => ?_, fun i y hy => ?_⟩
        · rcases List.mem_append.1 hy with hy | hy
          · exact h2 y hy
          · rw [List.mem_singleton.1 hy]; exact h6
        · rcases Nat.lt_or_ge i xs.length with hi | hi
          · rw [List.getElem?_append_left hi] at hy; exact h3 i y hy
          · have hi2 : i = xs.length := by
              have := (List.getElem?_eq_some_iff.1 hy).1
              simp at this
              omega
            subst hi2
            simp at hy
            subst hy
            rw [h1]
            exact ⟨c', h4, h5, h7⟩
    obtain ⟨xs, h1, h2, h3⟩ := key2 len (Nat.le_refl _)
    refine ⟨xs, ⟨⟨some a, cap, by rw [h1], by rw [h1]; omega, fun h => (nomatch h), ?_⟩, trivial⟩, by rw [h1]; simp only [maxLen] at hm ⊢; omega, h2⟩
    rcases Nat.eq_zero_or_pos len with hz | hz
    · left; rw [h1, hz]
    · right
      have hcell : ∀ i, i < len → ∀ j, j < sz → ∃ u, W.cell? (a.add (i * sz + j)) = some u ∧ Rep (oldF W) W ((c (xs.getD i d)).getD j .u) u := by
        intro i hi j hj
        have hxi : xs[i]? = some (xs.getD i d) := by rw [List.getD_eq_getElem?_getD, List.getElem?_eq_getElem (by omega)]; rfl
        obtain ⟨cs', k1, k2, k3⟩ := h3 i _ hxi
        have hcj : cs'[j]? = some (cs'[j]'(by omega)) := List.getElem?_eq_getElem (by omega)
        exact ⟨_, k3 j _ hcj, k2.get j _ hcj⟩
      obtain ⟨u0, hu0, _⟩ := hcell 0 hz 0 h0
      have ha0 : a.add (0 * sz + 0) = a := by simp [Addr.add]
      rw [ha0] at hu0
      refine ⟨a.block, a.off, by rw [← spot_none hu0], World.block_lt_of_cell? W a hu0, fun i hi j hj => ?_⟩
      rw [h1] at hi
      obtain ⟨u, k1, k2⟩ := hcell i hi j hj
      exact ⟨u, cell_add k1, k2⟩
theorem chg_below {w w' : World} (h : Chg (fun _ => False) w w') : Below w.heap.size w w' := ⟨h.os, h.tape, h.output, h.size, fun k hk => h.block k hk (fun h => h)⟩
theorem Spec.law {P : Program} {f : FuncId} {args : List FV} (h : Spec P f args (.p (.bool true)) []) {W : World} {vs : Array Value} (hv : RelVs ⟨oldF W, W, fun _ => undef, []⟩ args vs.toList) : Calls P f vs W fun e W' => e = .returned (.bool true) ∧ Below W.heap.size W W' := by
  refine (h W (oldF W) (fun _ => undef) vs (fun _ h => h) hv).mono fun e W' ⟨v, F', κ', he, hI, hr⟩ => ⟨?_, chg_below hI.chg⟩
  simp only [RelV, Rep] at hr
  rw [he, hr]
end Go.Proofs.YtjhnpaenhdbhpaaV
