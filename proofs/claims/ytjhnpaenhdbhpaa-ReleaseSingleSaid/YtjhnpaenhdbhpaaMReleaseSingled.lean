/- Part of the proof of ReleaseSingle: printed by programs of this repo out of the translation, and by hand. Each theorem's conditions stand in its statement. -/
import Derived.WideShapes
import Derived.ProofKit
import Derived.OpenShut
import Derived.ShutString
import Derived.ChangeOld
import Derived.SizedLaws
import Derived.ChangeSlices
import Derived.Orders
import Derived.Below
import Derived.Laws.AppendOwn
import Derived.Laws.OwnMore
import Derived.KernelRfl
import Derived.Test.YtjhnpaenhdbhpaaMReleaseSinglea
import Derived.Test.YtjhnpaenhdbhpaaMReleaseSingleb
import Derived.Test.YtjhnpaenhdbhpaaMReleaseSinglec
set_option linter.unusedVariables false
set_option linter.unusedSimpArgs false
namespace Go.Proofs.YtjhnpaenhdbhpaaV
open Go Go.RowKit
def cmpR : List TValue → List TValue → Int
  | [], [] => 0
  | [], _ :: _ => -1
  | _ :: _, [] => 1
  | x :: xs, y :: ys => if cmpV x y = 0 then cmpR xs ys else cmpV x y
theorem cmpR_nil (xs : List TValue) : cmpR xs [] = if xs.length = 0 then 0 else 1 := by cases xs <;> rfl
theorem nil_cmpR (ys : List TValue) : cmpR [] ys = if ys.length = 0 then 0 else -1 := by cases ys <;> rfl
theorem value_CompareRows_ev (xs ys : List TValue) (hx : xs.length ≤ 9223372036854775807) : Ev (fun k => value_CompareRows k xs ys) (cmpR xs ys) := by
  unfold value_CompareRows slices_CompareFunc_api_Value__value_Compare
  refine Ev.bind ?_ (Ev.now _)
  refine (loop_down (P := fun i => i ≤ ys.length → Ev (fun k => slices_CompareFunc_api_Value__value_Compare.p1 k xs ys xs (xs.length : Int) (i : Int)) (cmpR (xs.drop i) (ys.drop i))) xs.length ?_ ?_ 0 (by omega)) (by omega)
  · intro hy
    refine Ev.succ ?_
    simp only [slices_CompareFunc_api_Value__value_Compare.p1, decide_eq_true_eq]
    rw [List.drop_length, nil_cmpR, List.length_drop]
    refine Ev.ite_neg (by omega) ?_
    by_cases h : xs.length < ys.length
    · exact Ev.ite_pos (by omega) (Ev.done (by rw [if_neg (by omega)]))
    · exact Ev.ite_neg (by omega) (Ev.done (by rw [if_pos (by omega)]))
  · intro i hi ih hy
    refine Ev.succ ?_
    simp only [slices_CompareFunc_api_Value__value_Compare.p1, decide_eq_true_eq, value_Compare_eq, Option.bind_some, bne_iff_ne, ne_eq, ite_not]
    refine Ev.ite_pos (by omega) (Ev.ite_pos (by omega) ?_)
    by_cases h : i < ys.length
    · refine Ev.ite_neg (by omega) (Ev.ite_pos (by omega) ?_)
      rw [dV hi, dV h, wrn hi hx]
      unfold cmpR
      by_cases hc : cmpV (xs.getD (i : Int).toNat dValue) (ys.getD (i : Int).toNat dValue) = 0
      · rw [if_pos hc]; exact Ev.ite_pos hc (ih (by omega))
      · rw [if_neg hc]; exact Ev.ite_neg hc (Ev.now _)
    · rw [List.drop_eq_nil_of_le (show ys.length ≤ i by omega), cmpR_nil, List.length_drop, if_neg (by omega)]
      exact Ev.ite_pos (by omega) (Ev.now _)
def okRow (l : List TValue) : Bool := l.all okV && decide (l.length ≤ 16)
theorem value_ValidRow_ev (l : List TValue) (hl : l.length ≤ 9223372036854775807) : Ev (fun k => value_ValidRow k l) (okRow l) := by
  unfold value_ValidRow
  refine (loop_down (P := fun i => Ev (fun k => value_ValidRow.p1 k l l (l.length : Int) (i : Int)) ((l.drop i).all okV && decide (l.length ≤ 16))) l.length ?_ ?_ 0 (by omega))
  · refine Ev.succ ?_
    simp only [value_ValidRow.p1, decide_eq_true_eq]
    rw [List.drop_length]
    refine Ev.ite_neg (by omega) (Ev.done ?_)
    simp; omega
  · intro i hi ih
    refine Ev.succ ?_
    simp only [value_ValidRow.p1, value_Valid_eq, Option.bind_some, decide_eq_true_eq]
    refine Ev.ite_pos (by omega) (Ev.ite_pos (by omega) ?_)
    rw [dV hi, wrn hi hl, List.all_cons]
    cases hc : okV (l.getD (i : Int).toNat dValue) with
    | true => exact Ev.ite_neg (by simp) ih
    | false => exact Ev.ite_pos rfl (Ev.now _)
def okE (e : TEntry) : Bool := okRow e.f0 && decide (-262144 ≤ e.f1 ∧ e.f1 ≤ 262144)
theorem countFits_eq (k : Nat) (n : Int) : bag_countFits k n = some (decide (-262144 ≤ n ∧ n ≤ 262144)) := by
  unfold bag_countFits
  simp only [decide_eq_true_eq]
  by_cases h : n ≥ -262144
  · rw [if_pos h]; simp; omega
  · rw [if_neg h]; simp; omega
theorem entryFits_ev (e : TEntry) (hl : e.f0.length ≤ 9223372036854775807) : Ev (fun k => bag_entryFits k e) (okE e) := by
  unfold bag_entryFits okE
  refine Ev.bind (value_ValidRow_ev _ hl) ?_
  cases hc : okRow e.f0 with
  | true => simp only [if_true, countFits_eq, Option.bind_some, Bool.true_and]; exact Ev.now _
  | false => simp only [Bool.false_eq_true, if_false, Bool.false_and]; exact Ev.now _
def bvF : Option TEntry → List TEntry → Bool
  | _, [] => true
  | none, e :: l => okE e && !decide (e.f1 = 0) && bvF (some e) l
  | some p, e :: l => okE e && !decide (e.f1 = 0) && decide (cmpR p.f0 e.f0 < 0) && bvF (some e) l
def bagV (l : List TEntry) : Bool := bvF none l && decide (l.length ≤ 4096)
def prevE (l : List TEntry) (i : Nat) : Option TEntry := if i = 0 then none else some (l.getD ((i - 1 : Nat) : Int).toNat dEntry)
def Fin (l : List TEntry) : Prop := l.length ≤ 9223372036854775807 ∧ ∀ e ∈ l, e.f0.length ≤ 9223372036854775807
theorem Fin.at {l : List TEntry} (h : Fin l) {i : Nat} (hi : i < l.length) : (l.getD (i : Int).toNat dEntry).f0.length ≤ 9223372036854775807 := h.2 _ (getD_mem _ hi)
theorem bag_Valid_ev (l : List TEntry) (hl : Fin l) : Ev (fun k => bag_Valid k l) (bagV l) := by
  unfold bag_Valid
  refine (loop_down (P := fun i => Ev (fun k => bag_Valid.p1 k l l (l.length : Int) (i : Int)) (bvF (prevE l i) (l.drop i) && decide (l.length ≤ 4096))) l.length ?_ ?_ 0 (by omega))
  · refine Ev.succ ?_
    simp only [bag_Valid.p1, decide_eq_true_eq]
    rw [List.drop_length]
    refine Ev.ite_neg (by omega) (Ev.done ?_)
    simp [bvF]; omega
  · intro i hi ih
    have hp : prevE l (i + 1) = some (l.getD (i : Int).toNat dEntry) := by simp [prevE]
    rw [hp] at ih
    refine Ev.succ ?_
    simp only [bag_Valid.p1, decide_eq_true_eq, beq_iff_eq]
    refine Ev.ite_pos (by omega) (Ev.ite_pos (by omega) (Ev.bind (entryFits_ev _ (hl.at hi)) ?_))
    rw [dE hi, wrn hi hl.1]
    cases hc : okE (l.getD (i : Int).toNat dEntry) with
    | false => refine Ev.ite_pos rfl (Ev.done ?_); unfold bvF; cases prevE l i <;> simp only [hc, Bool.false_and]
    | true =>
      refine Ev.ite_neg (by simp) ?_
      by_cases hz : (l.getD (i : Int).toNat dEntry).f1 = 0
      · refine Ev.ite_pos hz (Ev.done ?_); unfold bvF; cases prevE l i <;> simp only [hz, decide_true, Bool.not_true, Bool.and_false, Bool.false_and]
      · refine Ev.ite_neg hz ?_
        by_cases h0 : i = 0
        · subst h0
          refine Ev.ite_neg (by omega) (ih.to ?_)
          simp only [prevE, if_true, bvF, hc, decide_eq_false hz, Bool.not_false, Bool.and_self, Bool.true_and]
        · have hl1 := hl.1
          rw [wrp (by omega) (by omega)]
          refine Ev.ite_pos (by omega) (Ev.ite_pos (by omega) (Ev.bind (value_CompareRows_ev _ _ (hl.at (show i - 1 < l.length by omega))) ?_))
          simp only [prevE, if_neg h0, bvF, hc, decide_eq_false hz, Bool.not_false, Bool.true_and]
          by_cases hcmp : cmpR (l.getD ((i - 1 : Nat) : Int).toNat dEntry).f0 (l.getD (i : Int).toNat dEntry).f0 < 0
          · rw [decide_eq_true hcmp]; exact Ev.ite_neg (by omega) (by simpa using ih)
          · rw [decide_eq_false hcmp]; exact Ev.ite_pos (by omega) (Ev.now _)
end Go.Proofs.YtjhnpaenhdbhpaaV
set_option linter.unusedVariables false
set_option linter.unusedSimpArgs false
namespace Go.Proofs.YtjhnpaenhdbhpaaV
open Go Go.RowKit
theorem U_ext {x y : TPublished} (h0 : x.f0 = y.f0) (h1 : x.f1 = y.f1) : x = y := by cases x; cases y; simp_all
instance : DecidableEq TPublished := fun x y => decidable_of_iff (x.f0 = y.f0 ∧ x.f1 = y.f1) ⟨fun h => U_ext h.1 h.2, fun h => by subst h; exact ⟨rfl, rfl⟩⟩
theorem dU {l : List TPublished} {i : Nat} (h : i < l.length) : l.drop i = l.getD (i : Int).toNat dPublished :: l.drop (i + 1) := drop_cons _ h
theorem cleaned_ev (l : List TValue) (hl : l.length ≤ 1099511627776) : Ev (fun k => release_cleaned k l) (l.map clV) := by
  unfold release_cleaned
  have key : ∀ i, i ≤ l.length → ∀ acc : List TValue, acc.length = i → Ev (fun k => release_cleaned.p1 k l (i : Int) acc) (acc ++ (l.drop i).map clV) := by
    refine loop_down (P := fun i => ∀ acc : List TValue, acc.length = i → Ev (fun k => release_cleaned.p1 k l (i : Int) acc) (acc ++ (l.drop i).map clV)) l.length ?_ ?_
    · intro acc _
      refine Ev.succ ?_
      simp only [release_cleaned.p1, decide_eq_true_eq]
      rw [List.drop_length]
      exact Ev.ite_neg (by omega) (Ev.done (by simp))
    · intro i hi ih acc ha
      refine Ev.succ ?_
      simp only [release_cleaned.p1, value_Clean_eq, Option.bind_some, decide_eq_true_eq]
      refine Ev.ite_pos (by omega) (Ev.ite_pos (by omega) (Ev.ite_pos (by simp only [maxLen, List.length_singleton]; omega) ?_))
      rw [dV hi, wrn hi (by omega), List.map_cons]
      exact (ih (acc ++ [clV (l.getD (i : Int).toNat dValue)]) (by simp [ha])).to (by simp)
  exact key 0 (by omega) [] rfl
def pubE (T keys : Int) (e : TEntry) : Option TPublished :=
  if e.f1 = 1 ∧ keys < (e.f0.length : Int) ∧ (e.f0.getD keys.toNat dValue).f0 = 1 ∧ T ≤ (e.f0.getD keys.toNat dValue).f1 ∧ (e.f0.getD keys.toNat dValue).f1 ≤ 4294967296 then
    some ⟨(e.f0.take keys.toNat).map clV, (e.f0.getD keys.toNat dValue).f1 - Int.tmod (e.f0.getD keys.toNat dValue).f1 T⟩ else none
def pubS (T keys : Int) (l : List TEntry) : List TPublished := if T < 1 ∨ keys < 0 ∨ bagV l = false then [] else l.filterMap (pubE T keys)
theorem tmod_rng {n T : Int} (h1 : 1 ≤ T) (h2 : T ≤ n) : 0 ≤ Int.tmod n T ∧ Int.tmod n T < T := ⟨Int.tmod_nonneg _ (by omega), Int.tmod_lt_of_pos _ (by omega)⟩
theorem subL_zero {α : Type} (l : List α) (n : Int) : subL l (0 : Int) n = l.take n.toNat := by simp [subL]
theorem step_ev (T keys : Int) (hT : 1 ≤ T) (hk : 0 ≤ keys) (e : TEntry) (ys : List TPublished) (he : e.f0.length ≤ 1099511627776) (hy : ys.length ≤ 1099511627776) :
    Ev (fun k => release_Publish_1__x0 k e keys T ys) (keys, T, ys ++ (pubE T keys e).toList) := by
  unfold release_Publish_1__x0 pubE
  simp only [bne_iff_ne, ne_eq, ite_not, decide_eq_true_eq]
  by_cases c1 : e.f1 = 1
  · refine Ev.ite_pos c1 ?_
    by_cases c2 : keys < (e.f0.length : Int)
    · refine Ev.ite_neg (by omega) (Ev.ite_pos ⟨hk, c2⟩ ?_)
      by_cases c3 : (e.f0.getD keys.toNat dValue).f0 = 1
      · refine Ev.ite_pos c3 ?_
        by_cases c4 : (e.f0.getD keys.toNat dValue).f1 < T
        · refine Ev.ite_pos c4 (Ev.done ?_)
          rw [if_neg (fun h => by omega)]; simp
        · refine Ev.ite_neg c4 ?_
          by_cases c5 : (e.f0.getD keys.toNat dValue).f1 > 4294967296
          · refine Ev.ite_pos c5 (Ev.done ?_)
            rw [if_neg (fun h => by omega)]; simp
          · have hr := tmod_rng hT (show T ≤ (e.f0.getD keys.toNat dValue).f1 by omega)
            rw [subL_zero]
            refine Ev.ite_neg c5 (Ev.ite_pos (by omega) (Ev.bind (cleaned_ev _ (by rw [List.length_take]; omega)) ?_))
            refine Ev.ite_neg (by omega) (Ev.ite_pos (by simp only [maxLen, List.length_singleton]; omega) (Ev.done ?_))
            rw [if_pos ⟨c1, c2, c3, by omega, by omega⟩, wr (by omega)]
            rfl
      · refine Ev.ite_neg c3 (Ev.done ?_)
        rw [if_neg (fun h => c3 h.2.2.1)]; simp
    · refine Ev.ite_pos (by omega) (Ev.done ?_)
      rw [if_neg (fun h => c2 h.2.1)]; simp
  · refine Ev.ite_neg c1 (Ev.done ?_)
    rw [if_neg (fun h => c1 h.1)]; simp
theorem bvF_mem : ∀ (l : List TEntry) (p : Option TEntry), bvF p l = true → ∀ e ∈ l, okE e = true
  | [], _, _, e, he => by cases he
  | x :: l, p, h, e, he => by
    have h1 : okE x = true ∧ bvF (some x) l = true := by
      cases p <;> simp only [bvF, Bool.and_eq_true] at h
      · exact ⟨h.1.1, h.2⟩
      · exact ⟨h.1.1.1, h.2⟩
    rcases List.mem_cons.1 he with rfl | he
    · exact h1.1
    · exact bvF_mem l _ h1.2 e he
theorem bagV_mem {l : List TEntry} (h : bagV l = true) : ∀ e ∈ l, okE e = true := by
  simp only [bagV, Bool.and_eq_true] at h
  exact bvF_mem l none h.1
theorem bagV_len {l : List TEntry} (h : bagV l = true) : l.length ≤ 4096 := by
  simp only [bagV, Bool.and_eq_true, decide_eq_true_eq] at h
  exact h.2
theorem okE_len {e : TEntry} (h : okE e = true) : e.f0.length ≤ 16 := by
  simp only [okE, okRow, Bool.and_eq_true, decide_eq_true_eq] at h
  exact h.1.2
theorem Publish_ev (r : TRelease) (keys : Int) (l : List TEntry) (hl : Fin l) : Ev (fun k => release_Publish k r keys l) (pubS r.f2 keys l) := by
  unfold release_Publish pubS
  simp only [decide_eq_true_eq]
  by_cases c1 : r.f2 < 1
  · rw [if_pos (.inl c1)]; exact Ev.ite_pos c1 (Ev.now _)
  · refine Ev.ite_neg c1 ?_
    by_cases c2 : keys < 0
    · rw [if_pos (.inr (.inl c2))]; exact Ev.ite_pos c2 (Ev.now _)
    · refine Ev.ite_neg c2 (Ev.bind (bag_Valid_ev l hl) ?_)
      cases hb : bagV l with
      | false => rw [if_pos (by simp)]; exact Ev.ite_pos rfl (Ev.now _)
      | true =>
        rw [if_neg (by simp; omega)]
        refine Ev.ite_neg (by simp) ?_
        have hmem := bagV_mem hb
        have hlen := bagV_len hb
        have key : ∀ i, i ≤ l.length → ∀ acc : List TPublished, acc.length ≤ i → Ev (fun k => release_Publish.p1 k l (i : Int) keys r.f2 acc) (acc ++ (l.drop i).filterMap (pubE r.f2 keys)) := by
          refine loop_down (P := fun i => ∀ acc : List TPublished, acc.length ≤ i → Ev (fun k => release_Publish.p1 k l (i : Int) keys r.f2 acc) (acc ++ (l.drop i).filterMap (pubE r.f2 keys))) l.length ?_ ?_
          · intro acc _
            refine Ev.succ ?_
            simp only [release_Publish.p1, decide_eq_true_eq]
            rw [List.drop_length]
            exact Ev.ite_neg (by omega) (Ev.done (by simp))
          · intro i hi ih acc ha
            refine Ev.succ ?_
            simp only [release_Publish.p1, decide_eq_true_eq]
            have h16 := okE_len (hmem _ (getD_mem dEntry hi))
            refine Ev.ite_pos (by omega) (Ev.ite_pos (by omega) (Ev.bind (step_ev r.f2 keys (by omega) (by omega) _ acc (by omega) (by omega)) ?_))
            rw [dE hi, wrn hi (by omega)]
            have hle : (acc ++ (pubE r.f2 keys (l.getD (i : Int).toNat dEntry)).toList).length ≤ i + 1 := by cases pubE r.f2 keys (l.getD (i : Int).toNat dEntry) <;> simp <;> omega
            refine (ih (acc ++ (pubE r.f2 keys (l.getD (i : Int).toNat dEntry)).toList) hle).to ?_
            rw [List.filterMap_cons]
            cases pubE r.f2 keys (l.getD (i : Int).toNat dEntry) <;> simp
        exact key 0 (by omega) [] (by simp)
def FinU (l : List TPublished) : Prop := l.length ≤ 9223372036854775807 ∧ ∀ e ∈ l, e.f0.length ≤ 9223372036854775807
end Go.Proofs.YtjhnpaenhdbhpaaV
set_option linter.unusedVariables false
set_option linter.unusedSimpArgs false
namespace Go.Proofs.YtjhnpaenhdbhpaaV
open Go Go.RowKit
theorem bits_mask_all (i : Nat) (hi : i < 63) (x : Int) : Go.bits .and .i64 x (2 ^ i - 1) = x % 2 ^ i := by
  have hpos : 0 < 2 ^ i := Nat.two_pow_pos i
  have hlt : 2 ^ i < 2 ^ 63 := Nat.pow_lt_pow_right (by decide) hi
  have hc : ((2 : Int) ^ i - 1) = ((2 ^ i - 1 : Nat) : Int) := by rw [Int.natCast_sub hpos]; simp
  rw [hc]
  unfold Go.bits
  have hb : (IntKind.i64).bits = 64 := rfl
  simp only [BitVec.toNat_and, BitVec.toNat_ofInt, BitVec.ofInt_natCast, BitVec.toNat_ofNat, hb]
  have h1 : (2 ^ i - 1) % 2 ^ 64 = 2 ^ i - 1 := Nat.mod_eq_of_lt (Nat.lt_of_lt_of_le (Nat.sub_lt hpos (by decide)) (Nat.le_of_lt (Nat.lt_trans hlt (by decide))))
  rw [h1, Nat.and_two_pow_sub_one_eq_mod]
  have h2 : (((x % ((2 ^ 64 : Nat) : Int)).toNat % 2 ^ i : Nat) : Int) = x % 2 ^ i := by
    rw [Int.natCast_emod, Int.toNat_of_nonneg (Int.emod_nonneg _ (by decide))]
    have hd : ((2 ^ i : Nat) : Int) ∣ ((2 ^ 64 : Nat) : Int) := by
      refine Int.natCast_dvd_natCast.2 (Nat.pow_dvd_pow 2 (by omega))
    rw [Int.emod_emod_of_dvd _ hd]
    simp
  rw [h2]
  have h3 : 0 ≤ x % 2 ^ i := Int.emod_nonneg _ (by have : (0 : Int) < 2 ^ i := by exact_mod_cast hpos
                                                   omega)
  have h4 : x % 2 ^ i < 2 ^ i := Int.emod_lt_of_pos _ (by exact_mod_cast hpos)
  have h5 : (2 : Int) ^ i < 2 ^ 63 := by exact_mod_cast hlt
  rw [IntKind.wrap_i64]
  omega
theorem and1023 (x : Int) : Go.bits .and .i64 x 1023 = x % 1024 := bits_mask_all 10 (by decide) x
theorem and511 (x : Int) : Go.bits .and .i64 x 511 = x % 512 := bits_mask_all 9 (by decide) x
theorem and15 (x : Int) : Go.bits .and .i64 x 15 = x % 16 := bits_mask_all 4 (by decide) x
theorem awake_ev : Ev (fun k => erasurelaw35_awake k) true := Ev.of (fun k k' hk h => erasurelaw35_awake.mono k k' true hk h) (k := 40) (by kernel_rfl)
def intV (n : Int) : TValue := ⟨1, n, ⟨#[]⟩⟩
theorem okV_int {n : Int} (h : -4294967296 ≤ n ∧ n ≤ 4294967296) : okV (intV n) = true := by
  unfold okV intV
  rw [if_neg (show ¬ ((1 : Int) = 0) by decide), if_pos rfl]
  simp [h]
theorem ref01_Int_eq (k : Nat) {n : Int} (h : -4294967296 ≤ n ∧ n ≤ 4294967296) : erasureref01_Int k n = some (intV n) := by
  unfold erasureref01_Int
  have := ref01_Clean_eq k (intV n)
  rw [clV_ok (okV_int h)] at this
  have e : erasureref01_Clean k (TValue.mk 1 n ⟨#[]⟩) = some (intV n) := this
  rw [e]; rfl
def rowG (i : Nat) (n : Int) : TEntry := ⟨[intV i, intV n], 1⟩
def grpS : Nat → List Int → List TEntry
  | _, [] => []
  | i, c :: l => if i < 40 then (if c % 1024 > 0 then [rowG i (c % 1024)] else []) ++ grpS (i + 1) l else []
theorem rd_at (l : List Int) {i : Nat} (h : i < l.length) : l.drop i = l.getD (i : Int).toNat 0 :: l.drop (i + 1) := drop_cons 0 h
theorem grpS_over : ∀ (l : List Int) (i : Nat), ¬ i < 40 → grpS i l = []
  | [], _, _ => rfl
  | _ :: _, _, h => by unfold grpS; rw [if_neg h]
theorem Groups_ev (l : List Int) (hl : l.length ≤ 9223372036854775807) : Ev (fun k => erasurelaw35_Groups k l) (grpS 0 l) := by
  unfold erasurelaw35_Groups
  have key : ∀ i, i ≤ l.length → ∀ acc : List TEntry, acc.length ≤ 40 → acc.length ≤ i → Ev (fun k => erasurelaw35_Groups.p1 k l (i : Int) acc) (acc ++ grpS i (l.drop i)) := by
    refine loop_down (P := fun i => ∀ acc : List TEntry, acc.length ≤ 40 → acc.length ≤ i → Ev (fun k => erasurelaw35_Groups.p1 k l (i : Int) acc) (acc ++ grpS i (l.drop i))) l.length ?_ ?_
    · intro acc _ _
      refine Ev.succ ?_
      simp only [erasurelaw35_Groups.p1, decide_eq_true_eq]
      rw [List.drop_length]
      exact Ev.ite_neg (by omega) (Ev.done (by simp [grpS]))
    · intro i hi ih acc h1 h2
      refine Ev.succ ?_
      simp only [erasurelaw35_Groups.p1, decide_eq_true_eq, and1023]
      refine Ev.ite_pos (by omega) ?_
      by_cases h40 : i < 40
      · refine Ev.ite_pos (by omega) (Ev.ite_pos (by omega) ?_)
        rw [rd_at l hi, wrn hi hl]
        unfold grpS
        rw [if_pos h40]
        have hm : 0 ≤ l.getD (i : Int).toNat 0 % 1024 ∧ l.getD (i : Int).toNat 0 % 1024 < 1024 := by omega
        by_cases hg : l.getD (i : Int).toNat 0 % 1024 > 0
        · rw [if_pos hg]
          refine Ev.ite_pos hg ?_
          simp only [ref01_Int_eq _ (show -4294967296 ≤ (i : Int) ∧ (i : Int) ≤ 4294967296 by omega), ref01_Int_eq _ (show -4294967296 ≤ l.getD (i : Int).toNat 0 % 1024 ∧ l.getD (i : Int).toNat 0 % 1024 ≤ 4294967296 by omega), Option.bind_some]
          refine Ev.ite_pos (by simp only [maxLen, List.length_singleton]; omega) ?_
          exact (ih (acc ++ [rowG i (l.getD (i : Int).toNat 0 % 1024)]) (by simp; omega) (by simp; omega)).to (by simp)
        · rw [if_neg hg]
          exact Ev.ite_neg hg (by simpa using ih acc h1 (by omega))
      · rw [grpS_over _ _ h40]
        exact Ev.ite_neg (by omega) (Ev.done (by simp))
  exact key 0 (by omega) [] (by simp) (by simp)
theorem limit_eq (k : Nat) (n : Int) : erasurelaw35_limit k n = some ⟨⟨#[]⟩, ⟨#[]⟩, 1 + n % 16⟩ := by
  unfold erasurelaw35_limit
  rw [and15, wr (by omega)]
end Go.Proofs.YtjhnpaenhdbhpaaV
set_option linter.unusedVariables false
set_option linter.unusedSimpArgs false
namespace Go.Proofs.YtjhnpaenhdbhpaaV
open Go Go.RowKit
def IsG : Nat → List TEntry → Prop
  | _, [] => True
  | i, e :: l => ∃ (a : Nat) (n : Int), i ≤ a ∧ a < 40 ∧ 0 < n ∧ n < 1024 ∧ e = rowG a n ∧ IsG (a + 1) l
theorem IsG.le : ∀ {l : List TEntry} {i j : Nat}, IsG j l → i ≤ j → IsG i l
  | [], _, _, _, _ => trivial
  | _ :: _, _, _, ⟨a, n, h1, h2, h3, h4, h5, h6⟩, h => ⟨a, n, by omega, h2, h3, h4, h5, h6⟩
theorem grpS_is : ∀ (l : List Int) (i : Nat), IsG i (grpS i l)
  | [], _ => trivial
  | c :: l, i => by
    unfold grpS
    by_cases h : i < 40
    · rw [if_pos h]
      by_cases hc : c % 1024 > 0
      · rw [if_pos hc]
        exact ⟨i, c % 1024, Nat.le_refl _, h, hc, by omega, rfl, grpS_is l (i + 1)⟩
      · rw [if_neg hc]
        exact (grpS_is l (i + 1)).le (by omega)
    · rw [if_neg h]; trivial
theorem cmpV_int {a b : Int} (ha : -4294967296 ≤ a ∧ a ≤ 4294967296) (hb : -4294967296 ≤ b ∧ b ≤ 4294967296) : cmpV (intV a) (intV b) = cmpI a b := by
  unfold cmpV
  rw [clV_ok (okV_int ha), clV_ok (okV_int hb)]
  rfl
theorem okE_rowG {a : Nat} {n : Int} (ha : a < 40) (hn : 0 < n ∧ n < 1024) : okE (rowG a n) = true := by
  unfold okE okRow rowG
  simp [okV_int (show -4294967296 ≤ (a : Int) ∧ (a : Int) ≤ 4294967296 by omega), okV_int (show -4294967296 ≤ n ∧ n ≤ 4294967296 by omega)]
theorem IsG.bvF_true : ∀ {l : List TEntry} {i : Nat} (p : Option TEntry), IsG i l → (∀ e, p = some e → ∃ (a : Nat) (n : Int), a < i ∧ a < 40 ∧ 0 < n ∧ n < 1024 ∧ e = rowG a n) → bvF p l = true
  | [], _, p, _, _ => by cases p <;> rfl
  | e :: l, i, p, ⟨a, n, h1, h2, h3, h4, h5, h6⟩, hp => by
    subst h5
    have ht := IsG.bvF_true (some (rowG a n)) h6 (fun e he => ⟨a, n, by omega, h2, h3, h4, (Option.some.inj he).symm⟩)
    have hk := okE_rowG h2 ⟨h3, h4⟩
    cases p with
    | none => simp only [bvF, hk, ht]; simp [rowG]
    | some q =>
      obtain ⟨b, m, b1, b2, b3, b4, rfl⟩ := hp q rfl
      have hc : cmpR (rowG b m).f0 (rowG a n).f0 < 0 := by
        show cmpR [intV b, intV m] [intV a, intV n] < 0
        unfold cmpR
        have e1 : cmpV (intV b) (intV a) = cmpI b a := cmpV_int (by omega) (by omega)
        have e2 : cmpI (b : Int) (a : Int) < 0 := cmpI_neg.2 (by omega)
        rw [e1, if_neg (by omega)]; exact e2
      simp only [bvF, hk, ht, decide_eq_true hc]; simp [rowG]
theorem IsG.len : ∀ {l : List TEntry} {i : Nat}, IsG i l → l.length + i ≤ 40 ∨ l = []
  | [], _, _ => .inr rfl
  | e :: l, i, ⟨a, n, h1, h2, h3, h4, h5, h6⟩ => by
    rcases h6.len with h | h
    · left; simp; omega
    · subst h; left; simp; omega
theorem IsG.len40 {l : List TEntry} {i : Nat} (h : IsG i l) : l.length ≤ 40 := by
  rcases h.len with h | h
  · omega
  · subst h; simp
theorem IsG.bagV_true {l : List TEntry} {i : Nat} (h : IsG i l) : bagV l = true := by
  unfold bagV
  rw [h.bvF_true none (fun e he => by cases he), decide_eq_true (by have := h.len40; omega)]; rfl
theorem IsG.fin {l : List TEntry} {i : Nat} (h : IsG i l) : Fin l := by
  refine ⟨by have := h.len40; omega, fun e he => ?_⟩
  have := okE_len (bagV_mem h.bagV_true e he)
  omega
def pubG (T : Int) (a : Nat) (n : Int) : TPublished := ⟨[intV a], n - Int.tmod n T⟩
theorem pubE_rowG {T : Int} {a : Nat} {n : Int} (ha : a < 40) (hn : 0 < n ∧ n < 1024) : pubE T 1 (rowG a n) = if T ≤ n then some (pubG T a n) else none := by
  unfold pubE rowG pubG
  have e1 : [intV a, intV n].getD (Int.toNat 1) dValue = intV n := rfl
  simp only [e1, List.length_cons, List.length_nil]
  have e2 : (List.take (Int.toNat 1) [intV a, intV n]).map clV = [intV a] := by
    show [clV (intV a)] = [intV a]
    rw [clV_ok (okV_int (by omega))]
  rw [e2]
  by_cases h : T ≤ n
  · rw [if_pos ⟨trivial, by omega, rfl, h, by show n ≤ _; omega⟩, if_pos h]; rfl
  · rw [if_neg (fun x => h x.2.2.2.1), if_neg h]
theorem pubS_grp {T : Int} (hT : 1 ≤ T) {l : List TEntry} {i : Nat} (h : IsG i l) : pubS T 1 l = l.filterMap (pubE T 1) := by
  unfold pubS
  rw [if_neg (by rw [h.bagV_true]; simp; omega)]
end Go.Proofs.YtjhnpaenhdbhpaaV
set_option linter.unusedVariables false
set_option linter.unusedSimpArgs false
namespace Go.Proofs.YtjhnpaenhdbhpaaV
open Go Go.RowKit
theorem cmpC_trans {a b c : TValue} (ha : okV a = true) (hb : okV b = true) (hc : okV c = true) (h1 : cmpC a b < 0) (h2 : cmpC b c < 0) : cmpC a c < 0 := by
  rw [cmpC_neg ha hb] at h1
  rw [cmpC_neg hb hc] at h2
  rw [cmpC_neg ha hc]
  rcases h1 with h1 | ⟨e1, h1⟩ <;> rcases h2 with h2 | ⟨e2, h2⟩
  · exact .inl (by omega)
  · exact .inl (by omega)
  · exact .inl (by omega)
  · refine .inr ⟨by omega, ?_⟩
    rcases ok_cases ha with ⟨a0, a1, a2⟩ | ⟨a0, a2⟩ | ⟨a0, a1⟩ <;> rcases ok_cases hb with ⟨b0, b1, b2⟩ | ⟨b0, b2⟩ | ⟨b0, b1⟩ <;> rcases ok_cases hc with ⟨c0, c1, c2⟩ | ⟨c0, c2⟩ | ⟨c0, c1⟩ <;> (try omega)
    · rw [a2, b2] at h1
      rcases h1 with h1 | h1
      · omega
      · exact absurd h1 (List.lt_irrefl _)
    · rw [a2, b2] at h1
      rw [b2, c2] at h2
      rcases h1 with h1 | h1
      · rcases h2 with h2 | h2
        · exact .inl (by omega)
        · exact absurd h2 (List.lt_irrefl _)
      · exact absurd h1 (List.lt_irrefl _)
    · rcases h1 with h1 | h1
      · omega
      · rcases h2 with h2 | h2
        · omega
        · exact .inr (List.lt_trans h1 h2)
theorem cmpV_trans {a b c : TValue} (h1 : cmpV a b < 0) (h2 : cmpV b c < 0) : cmpV a c < 0 := cmpC_trans (okV_cl a) (okV_cl b) (okV_cl c) h1 h2
theorem cmpV_swap (a b : TValue) : cmpV b a = - cmpV a b := cmpC_swap _ _
theorem cmpV_self (a : TValue) : cmpV a a = 0 := (cmpC_zero (okV_cl a) (okV_cl a)).2 rfl
end Go.Proofs.YtjhnpaenhdbhpaaV
set_option linter.unusedVariables false
set_option linter.unusedSimpArgs false
namespace Go.Proofs.YtjhnpaenhdbhpaaV
open Go Go.RowKit
theorem cmpR_swap : ∀ a b : List TValue, cmpR b a = - cmpR a b
  | [], [] => rfl
  | [], _ :: _ => rfl
  | _ :: _, [] => rfl
  | x :: a, y :: b => by
    unfold cmpR
    have h := cmpV_swap x y
    by_cases h0 : cmpV x y = 0
    · rw [if_pos h0, if_pos (by omega)]; exact cmpR_swap a b
    · rw [if_neg h0, if_neg (by omega)]; exact h
theorem cmpR_self : ∀ a : List TValue, cmpR a a = 0
  | [] => rfl
  | x :: a => by unfold cmpR; rw [if_pos (cmpV_self x)]; exact cmpR_self a
theorem cmpV_zero_cl {a b : TValue} : cmpV a b = 0 ↔ clV a = clV b := cmpC_zero (okV_cl a) (okV_cl b)
theorem cmpV_congr {a a' b b' : TValue} (ha : clV a = clV a') (hb : clV b = clV b') : cmpV a b = cmpV a' b' := by unfold cmpV; rw [ha, hb]
theorem cmpR_zero : ∀ {a b : List TValue}, cmpR a b = 0 ↔ a.map clV = b.map clV
  | [], [] => by simp [cmpR]
  | [], _ :: _ => by simp [cmpR]
  | _ :: _, [] => by simp [cmpR]
  | x :: a, y :: b => by
    unfold cmpR
    simp only [List.map_cons, List.cons.injEq]
    by_cases h0 : cmpV x y = 0
    · rw [if_pos h0, cmpR_zero]
      exact ⟨fun h => ⟨cmpV_zero_cl.1 h0, h⟩, fun h => h.2⟩
    · rw [if_neg h0]
      exact ⟨fun h => absurd h h0, fun h => absurd (cmpV_zero_cl.2 h.1) h0⟩
theorem cmpR_trans : ∀ {a b c : List TValue}, cmpR a b < 0 → cmpR b c < 0 → cmpR a c < 0
  | [], [], c, h, _ => by simp [cmpR] at h
  | [], _ :: _, [], _, h => by simp [cmpR] at h
  | [], _ :: _, _ :: _, _, _ => by simp [cmpR]
  | _ :: _, [], _, h, _ => by simp [cmpR] at h
  | _ :: _, _ :: _, [], _, h => by simp [cmpR] at h
  | x :: a, y :: b, z :: c, h1, h2 => by
    unfold cmpR at h1 h2 ⊢
    by_cases e1 : cmpV x y = 0
    · rw [if_pos e1] at h1
      have q := cmpV_congr (b := z) (cmpV_zero_cl.1 e1) rfl
      by_cases e2 : cmpV y z = 0
      · rw [if_pos e2] at h2
        rw [if_pos (by omega)]
        exact cmpR_trans h1 h2
      · rw [if_neg e2] at h2
        rw [if_neg (by omega)]; omega
    · rw [if_neg e1] at h1
      by_cases e2 : cmpV y z = 0
      · rw [if_pos e2] at h2
        have q := cmpV_congr (a := x) rfl (cmpV_zero_cl.1 e2)
        rw [if_neg (by omega)]; omega
      · rw [if_neg e2] at h2
        have := cmpV_trans h1 h2
        rw [if_neg (by omega)]; exact this
theorem cmpR_congr {a a' b b' : List TValue} (ha : a.map clV = a'.map clV) (hb : b.map clV = b'.map clV) : cmpR a b = cmpR a' b' := by
  induction a generalizing a' b b' with
  | nil =>
    cases a' with
    | nil => cases b <;> cases b' <;> simp_all [cmpR]
    | cons _ _ => simp at ha
  | cons x a ih =>
    cases a' with
    | nil => simp at ha
    | cons x' a' =>
      cases b with
      | nil => cases b' <;> simp_all [cmpR]
      | cons y b =>
        cases b' with
        | nil => simp at hb
        | cons y' b' =>
          simp only [List.map_cons, List.cons.injEq] at ha hb
          unfold cmpR
          rw [cmpV_congr ha.1 hb.1, ih ha.2 hb.2]
theorem cmpR_le_trans {a b c : List TValue} (h1 : ¬ cmpR a b < 0) (h2 : ¬ cmpR b c < 0) : ¬ cmpR a c < 0 := by
  intro h3
  have s1 := cmpR_swap a b
  have s2 := cmpR_swap b c
  have s3 := cmpR_swap c a
  by_cases e1 : cmpR a b = 0
  · rw [cmpR_congr (cmpR_zero.1 e1) rfl] at h3; exact h2 h3
  · by_cases e2 : cmpR b c = 0
    · rw [← cmpR_congr rfl (cmpR_zero.1 e2)] at h3; exact h1 h3
    · have := cmpR_trans (show cmpR c b < 0 by omega) (show cmpR b a < 0 by omega)
      omega
end Go.Proofs.YtjhnpaenhdbhpaaV
set_option linter.unusedVariables false
set_option linter.unusedSimpArgs false
set_option maxRecDepth 100000
namespace Go.Proofs.YtjhnpaenhdbhpaaV
open Go Go.RowKit
noncomputable def erasureref01_ValidRow.p1  : Nat → (List TValue) → Int → Option Bool
  | 0, _, _ => none
  | k + 1, r0, i3 => if (decide (i3 < ((r0).length : Int))) = true then (if 0 ≤ i3 ∧ i3 < ((r0).length : Int) then ((erasureref01_Valid k (r0.getD i3.toNat dValue)).bind fun y_4 => (if (!y_4) = true then (some false) else (erasureref01_ValidRow.p1 k r0 (IntKind.i64.wrap (i3 + 1))))) else none) else (some true)
noncomputable def erasureref01_ValidRow  (k : Nat) (r0 : (List TValue)) : Option Bool := if (decide (((r0).length : Int) > 16)) = true then (some false) else (erasureref01_ValidRow.p1 k r0 0)
noncomputable def erasureref01_ValidRow.t : List Item := [.code (bodyOf Try.f31)]
noncomputable def erasureref01_ValidRow.s (r0 : (List TValue)) : St := ⟨frOf Try.f31.ntmps 0 [(0, .p (eL 3 cValue dValue r0))], []⟩
noncomputable def erasureref01_ValidRow.p1.t : List Item := nav 12 [false] erasureref01_ValidRow.t
noncomputable def erasureref01_ValidRow.p1.s (r0 : (List TValue)) (i3 : Int) : St := ⟨frOf Try.f31.ntmps 0 [(0, .p (eL 3 cValue dValue r0)), (3, .p (.int .i64 i3))], []⟩
theorem erasureref01_ValidRow.p1.run   : ∀ (k : Nat) (r0 : (List TValue)) (i3 : Int) (r : Bool), erasureref01_ValidRow.p1 k r0 i3 = some r → RunC Try.prog Try.f31 erasureref01_ValidRow.p1.t (erasureref01_ValidRow.p1.s r0 i3) (.p (.bool r)) [] := by
  intro k
  induction k with
  | zero => intro r0 i3 r h; simp [erasureref01_ValidRow.p1] at h
  | succ k ih =>
    intro r0 i3 r h
    rw [erasureref01_ValidRow.p1] at h
    rcases ite_or h with ⟨g_2, h⟩ | ⟨g_2, h⟩
    · obtain ⟨g_3, h⟩ := ite_some h
      obtain ⟨y_4, e_5, h⟩ := bind_or h
      rcases ite_or h with ⟨g_6, h⟩ | ⟨g_6, h⟩
      · obtain rfl := Option.some.inj h
        exact RunC.out [.n 2, .r [(3, .dec true)], .n 5, .r [(4, .call (.p (.bool y_4)) []), (5, .dec true)], .n 3] (by kernel_rfl) (Obs.of (by kernel_rfl) (And.intro g_2 (And.intro g_3 (And.intro (erasureref01_Valid.spec e_5) g_6))))
      · exact RunC.go [.n 2, .r [(3, .dec true)], .n 5, .r [(4, .call (.p (.bool y_4)) []), (5, .dec false)], .n 5, .k [0, 3]] (by kernel_rfl) (Obs.of (by kernel_rfl) (And.intro g_2 (And.intro g_3 (And.intro (erasureref01_Valid.spec e_5) (nt g_6))))) (ih _ _ r h)
    · obtain rfl := Option.some.inj h
      exact RunC.out [.n 2, .r [(3, .dec false)], .n 4] (by kernel_rfl) (Obs.of (by kernel_rfl) (nt g_2))
theorem erasureref01_ValidRow.run   {k : Nat} {r0 : (List TValue)} {r : Bool} (h : erasureref01_ValidRow k r0 = some r) : RunC Try.prog Try.f31 erasureref01_ValidRow.t (erasureref01_ValidRow.s r0) (.p (.bool r)) [] := by
  unfold erasureref01_ValidRow at h
  rcases ite_or h with ⟨g_1, h⟩ | ⟨g_1, h⟩
  · obtain rfl := Option.some.inj h
    exact RunC.out [.n 4, .r [(2, .dec true)], .n 3] (by kernel_rfl) (Obs.of (by kernel_rfl) g_1)
  · exact RunC.go [.n 4, .r [(2, .dec false)], .n 7, .k [0, 3]] (by kernel_rfl) (Obs.of (by kernel_rfl) (nt g_1)) (erasureref01_ValidRow.p1.run k _ _ r h)
theorem erasureref01_ValidRow.p1.mono   : ∀ (k k' : Nat) (r0 : (List TValue)) (i3 : Int) (r : Bool), k ≤ k' → erasureref01_ValidRow.p1 k r0 i3 = some r → erasureref01_ValidRow.p1 k' r0 i3 = some r := by
  intro k
  induction k with
  | zero => intro k' r0 i3 r hk h; simp [erasureref01_ValidRow.p1] at h
  | succ k ih =>
    intro k' r0 i3 r hk h
    obtain ⟨k', rfl⟩ : ∃ m, k' = m + 1 := ⟨k' - 1, by omega⟩
    replace hk := Nat.le_of_succ_le_succ hk
    rw [erasureref01_ValidRow.p1] at h ⊢
    rcases ite_or h with ⟨g_2, h⟩ | ⟨g_2, h⟩
    · refine itp g_2 ?_
      obtain ⟨g_3, h⟩ := ite_some h
      refine itp g_3 ?_
      obtain ⟨y_4, e_5, h⟩ := bind_or h
      refine bnd (erasureref01_Valid.mono _ _ _ _ hk e_5) ?_
      rcases ite_or h with ⟨g_6, h⟩ | ⟨g_6, h⟩
      · refine itp g_6 ?_
        exact h
      · refine itn g_6 ?_
        exact ih _ _ _ r hk h
    · refine itn g_2 ?_
      exact h
theorem erasureref01_ValidRow.mono   : ∀ (k k' : Nat) (r0 : (List TValue)) (r : Bool), k ≤ k' → erasureref01_ValidRow k r0 = some r → erasureref01_ValidRow k' r0 = some r := by
  intro k k' r0 r hk h
  unfold erasureref01_ValidRow at h ⊢
  rcases ite_or h with ⟨g_1, h⟩ | ⟨g_1, h⟩
  · refine itp g_1 ?_
    exact h
  · refine itn g_1 ?_
    exact erasureref01_ValidRow.p1.mono _ _ _ _ r hk h
theorem erasureref01_ValidRow.spec {k : Nat} {r0 : (List TValue)} {r : Bool} (h : erasureref01_ValidRow k r0 = some r) : Spec Try.prog 31 [.p (eL 3 cValue dValue r0)] (.p (.bool r)) [] :=
  spec_of mix Try.func31 (body := bodyOf Try.f31) (by kernel_rfl) (by kernel_rfl) (erasureref01_ValidRow.run h)
end Go.Proofs.YtjhnpaenhdbhpaaV
set_option linter.unusedVariables false
set_option linter.unusedSimpArgs false
set_option maxRecDepth 100000
namespace Go.Proofs.YtjhnpaenhdbhpaaV
open Go Go.RowKit
noncomputable def erasureref06_countOK  (k : Nat) (n0 : Int) : Option Bool := if (decide (n0 ≥ (-262144))) = true then (some (decide (n0 ≤ 262144))) else (some false)
noncomputable def erasureref06_countOK.t : List Item := [.code (bodyOf Try.f32)]
noncomputable def erasureref06_countOK.s (n0 : Int) : St := ⟨frOf Try.f32.ntmps 0 [(0, .p (.int .i64 n0))], []⟩
theorem erasureref06_countOK.run   {k : Nat} {n0 : Int} {r : Bool} (h : erasureref06_countOK k n0 = some r) : RunC Try.prog Try.f32 erasureref06_countOK.t (erasureref06_countOK.s n0) (.p (.bool r)) [] := by
  unfold erasureref06_countOK at h
  rcases ite_or h with ⟨g_1, h⟩ | ⟨g_1, h⟩
  · obtain rfl := Option.some.inj h
    exact RunC.out [.n 3, .r [(2, .dec true)]] (by kernel_rfl) (Obs.of (by kernel_rfl) g_1)
  · obtain rfl := Option.some.inj h
    exact RunC.out [.n 3, .r [(2, .dec false)]] (by kernel_rfl) (Obs.of (by kernel_rfl) (nt g_1))
theorem erasureref06_countOK.mono   : ∀ (k k' : Nat) (n0 : Int) (r : Bool), k ≤ k' → erasureref06_countOK k n0 = some r → erasureref06_countOK k' n0 = some r := by
  intro k k' n0 r hk h
  unfold erasureref06_countOK at h ⊢
  rcases ite_or h with ⟨g_1, h⟩ | ⟨g_1, h⟩
  · refine itp g_1 ?_
    exact h
  · refine itn g_1 ?_
    exact h
theorem erasureref06_countOK.spec {k : Nat} {n0 : Int} {r : Bool} (h : erasureref06_countOK k n0 = some r) : Spec Try.prog 32 [.p (.int .i64 n0)] (.p (.bool r)) [] :=
  spec_of mix Try.func32 (body := bodyOf Try.f32) (by kernel_rfl) (by kernel_rfl) (erasureref06_countOK.run h)
end Go.Proofs.YtjhnpaenhdbhpaaV
set_option linter.unusedVariables false
set_option linter.unusedSimpArgs false
set_option maxRecDepth 100000
namespace Go.Proofs.YtjhnpaenhdbhpaaV
open Go Go.RowKit
noncomputable def erasureref06_Valid.p1  : Nat → (List TEntry) → Int → Option Bool
  | 0, _, _ => none
  | k + 1, b0, i3 => if (decide (i3 < ((b0).length : Int))) = true then (if 0 ≤ i3 ∧ i3 < ((b0).length : Int) then ((erasureref01_ValidRow k ((b0.getD i3.toNat dEntry).f0)).bind fun y_4 => (if (!y_4) = true then (some false) else ((erasureref06_countOK k ((b0.getD i3.toNat dEntry).f1)).bind fun y_7 => (if (!y_7) = true then (some false) else (if ((b0.getD i3.toNat dEntry).f1 == 0) = true then (some false) else (if (decide (i3 > 0)) = true then (if 0 ≤ (IntKind.i64.wrap (i3 - 1)) ∧ (IntKind.i64.wrap (i3 - 1)) < ((b0).length : Int) then ((erasureref01_CompareRows k ((b0.getD (IntKind.i64.wrap (i3 - 1)).toNat dEntry).f0) ((b0.getD i3.toNat dEntry).f0)).bind fun y_13 => (if (decide (y_13 ≥ 0)) = true then (some false) else (erasureref06_Valid.p1 k b0 (IntKind.i64.wrap (i3 + 1))))) else none) else (erasureref06_Valid.p1 k b0 (IntKind.i64.wrap (i3 + 1))))))))) else none) else (some true)
noncomputable def erasureref06_Valid  (k : Nat) (b0 : (List TEntry)) : Option Bool := if (decide (((b0).length : Int) > 4096)) = true then (some false) else (erasureref06_Valid.p1 k b0 0)
noncomputable def erasureref06_Valid.t : List Item := [.code (bodyOf Try.f38)]
noncomputable def erasureref06_Valid.s (b0 : (List TEntry)) : St := ⟨frOf Try.f38.ntmps 0 [(0, .p (eL 2 cEntry dEntry b0))], []⟩
noncomputable def erasureref06_Valid.p1.t : List Item := nav 12 [false] erasureref06_Valid.t
noncomputable def erasureref06_Valid.p1.s (b0 : (List TEntry)) (i3 : Int) : St := ⟨frOf Try.f38.ntmps 0 [(0, .p (eL 2 cEntry dEntry b0)), (3, .p (.int .i64 i3))], []⟩
theorem erasureref06_Valid.p1.run   : ∀ (k : Nat) (b0 : (List TEntry)) (i3 : Int) (r : Bool), erasureref06_Valid.p1 k b0 i3 = some r → RunC Try.prog Try.f38 erasureref06_Valid.p1.t (erasureref06_Valid.p1.s b0 i3) (.p (.bool r)) [] := by
  intro k
  induction k with
  | zero => intro b0 i3 r h; simp [erasureref06_Valid.p1] at h
  | succ k ih =>
    intro b0 i3 r h
    rw [erasureref06_Valid.p1] at h
    rcases ite_or h with ⟨g_2, h⟩ | ⟨g_2, h⟩
    · obtain ⟨g_3, h⟩ := ite_some h
      obtain ⟨y_4, e_5, h⟩ := bind_or h
      rcases ite_or h with ⟨g_6, h⟩ | ⟨g_6, h⟩
      · obtain rfl := Option.some.inj h
        exact RunC.out [.n 2, .r [(3, .dec true)], .n 5, .r [(5, .call (.p (.bool y_4)) []), (7, .dec true)], .n 3] (by kernel_rfl) (Obs.of (by kernel_rfl) (And.intro g_2 (And.intro g_3 (And.intro (erasureref01_ValidRow.spec e_5) g_6))))
      · obtain ⟨y_7, e_8, h⟩ := bind_or h
        rcases ite_or h with ⟨g_9, h⟩ | ⟨g_9, h⟩
        · obtain rfl := Option.some.inj h
          exact RunC.out [.n 2, .r [(3, .dec true)], .n 5, .r [(5, .call (.p (.bool y_4)) []), (7, .dec false), (13, .call (.p (.bool y_7)) []), (16, .dec true)], .n 3] (by kernel_rfl) (Obs.of (by kernel_rfl) (And.intro g_2 (And.intro g_3 (And.intro (erasureref01_ValidRow.spec e_5) (And.intro (nt g_6) (And.intro g_3 (And.intro (erasureref06_countOK.spec e_8) g_9)))))))
        · rcases ite_or h with ⟨g_10, h⟩ | ⟨g_10, h⟩
          · obtain rfl := Option.some.inj h
            exact RunC.out [.n 2, .r [(3, .dec true)], .n 5, .r [(5, .call (.p (.bool y_4)) []), (7, .dec false), (13, .call (.p (.bool y_7)) []), (16, .dec false), (24, .dec true)], .n 3] (by kernel_rfl) (Obs.of (by kernel_rfl) (And.intro g_2 (And.intro g_3 (And.intro (erasureref01_ValidRow.spec e_5) (And.intro (nt g_6) (And.intro g_3 (And.intro (erasureref06_countOK.spec e_8) (And.intro (nt g_9) (And.intro g_3 g_10)))))))))
          · rcases ite_or h with ⟨g_11, h⟩ | ⟨g_11, h⟩
            · obtain ⟨g_12, h⟩ := ite_some h
              obtain ⟨y_13, e_14, h⟩ := bind_or h
              rcases ite_or h with ⟨g_15, h⟩ | ⟨g_15, h⟩
              · obtain rfl := Option.some.inj h
                exact RunC.out [.n 2, .r [(3, .dec true)], .n 5, .r [(5, .call (.p (.bool y_4)) []), (7, .dec false), (13, .call (.p (.bool y_7)) []), (16, .dec false), (24, .dec false), (27, .dec true), (39, .call (.p (.int .i64 y_13)) []), (42, .dec true)], .n 3] (by kernel_rfl) (Obs.of (by kernel_rfl) (And.intro g_2 (And.intro g_3 (And.intro (erasureref01_ValidRow.spec e_5) (And.intro (nt g_6) (And.intro g_3 (And.intro (erasureref06_countOK.spec e_8) (And.intro (nt g_9) (And.intro g_3 (And.intro (nt g_10) (And.intro g_11 (And.intro g_12 (And.intro g_3 (And.intro (erasureref01_CompareRows.spec e_14) g_15))))))))))))))
              · exact RunC.go [.n 2, .r [(3, .dec true)], .n 5, .r [(5, .call (.p (.bool y_4)) []), (7, .dec false), (13, .call (.p (.bool y_7)) []), (16, .dec false), (24, .dec false), (27, .dec true), (39, .call (.p (.int .i64 y_13)) []), (42, .dec false)], .n 5, .k [0, 3]] (by kernel_rfl) (Obs.of (by kernel_rfl) (And.intro g_2 (And.intro g_3 (And.intro (erasureref01_ValidRow.spec e_5) (And.intro (nt g_6) (And.intro g_3 (And.intro (erasureref06_countOK.spec e_8) (And.intro (nt g_9) (And.intro g_3 (And.intro (nt g_10) (And.intro g_11 (And.intro g_12 (And.intro g_3 (And.intro (erasureref01_CompareRows.spec e_14) (nt g_15))))))))))))))) (ih _ _ r h)
            · exact RunC.go [.n 2, .r [(3, .dec true)], .n 5, .r [(5, .call (.p (.bool y_4)) []), (7, .dec false), (13, .call (.p (.bool y_7)) []), (16, .dec false), (24, .dec false), (27, .dec false)], .n 5, .k [0, 3]] (by kernel_rfl) (Obs.of (by kernel_rfl) (And.intro g_2 (And.intro g_3 (And.intro (erasureref01_ValidRow.spec e_5) (And.intro (nt g_6) (And.intro g_3 (And.intro (erasureref06_countOK.spec e_8) (And.intro (nt g_9) (And.intro g_3 (And.intro (nt g_10) (nt g_11))))))))))) (ih _ _ r h)
    · obtain rfl := Option.some.inj h
      exact RunC.out [.n 2, .r [(3, .dec false)], .n 4] (by kernel_rfl) (Obs.of (by kernel_rfl) (nt g_2))
theorem erasureref06_Valid.run   {k : Nat} {b0 : (List TEntry)} {r : Bool} (h : erasureref06_Valid k b0 = some r) : RunC Try.prog Try.f38 erasureref06_Valid.t (erasureref06_Valid.s b0) (.p (.bool r)) [] := by
  unfold erasureref06_Valid at h
  rcases ite_or h with ⟨g_1, h⟩ | ⟨g_1, h⟩
  · obtain rfl := Option.some.inj h
    exact RunC.out [.n 4, .r [(2, .dec true)], .n 3] (by kernel_rfl) (Obs.of (by kernel_rfl) g_1)
  · exact RunC.go [.n 4, .r [(2, .dec false)], .n 7, .k [0, 3]] (by kernel_rfl) (Obs.of (by kernel_rfl) (nt g_1)) (erasureref06_Valid.p1.run k _ _ r h)
theorem erasureref06_Valid.p1.mono   : ∀ (k k' : Nat) (b0 : (List TEntry)) (i3 : Int) (r : Bool), k ≤ k' → erasureref06_Valid.p1 k b0 i3 = some r → erasureref06_Valid.p1 k' b0 i3 = some r := by
  intro k
  induction k with
  | zero => intro k' b0 i3 r hk h; simp [erasureref06_Valid.p1] at h
  | succ k ih =>
    intro k' b0 i3 r hk h
    obtain ⟨k', rfl⟩ : ∃ m, k' = m + 1 := ⟨k' - 1, by omega⟩
    replace hk := Nat.le_of_succ_le_succ hk
    rw [erasureref06_Valid.p1] at h ⊢
    rcases ite_or h with ⟨g_2, h⟩ | ⟨g_2, h⟩
    · refine itp g_2 ?_
      obtain ⟨g_3, h⟩ := ite_some h
      refine itp g_3 ?_
      obtain ⟨y_4, e_5, h⟩ := bind_or h
      refine bnd (erasureref01_ValidRow.mono _ _ _ _ hk e_5) ?_
      rcases ite_or h with ⟨g_6, h⟩ | ⟨g_6, h⟩
      · refine itp g_6 ?_
        exact h
      · refine itn g_6 ?_
        obtain ⟨y_7, e_8, h⟩ := bind_or h
        refine bnd (erasureref06_countOK.mono _ _ _ _ hk e_8) ?_
        rcases ite_or h with ⟨g_9, h⟩ | ⟨g_9, h⟩
        · refine itp g_9 ?_
          exact h
        · refine itn g_9 ?_
          rcases ite_or h with ⟨g_10, h⟩ | ⟨g_10, h⟩
          · refine itp g_10 ?_
            exact h
          · refine itn g_10 ?_
            rcases ite_or h with ⟨g_11, h⟩ | ⟨g_11, h⟩
            · refine itp g_11 ?_
              obtain ⟨g_12, h⟩ := ite_some h
              refine itp g_12 ?_
              obtain ⟨y_13, e_14, h⟩ := bind_or h
              refine bnd (erasureref01_CompareRows.mono _ _ _ _ _ hk e_14) ?_
              rcases ite_or h with ⟨g_15, h⟩ | ⟨g_15, h⟩
              · refine itp g_15 ?_
                exact h
              · refine itn g_15 ?_
                exact ih _ _ _ r hk h
            · refine itn g_11 ?_
              exact ih _ _ _ r hk h
    · refine itn g_2 ?_
      exact h
theorem erasureref06_Valid.mono   : ∀ (k k' : Nat) (b0 : (List TEntry)) (r : Bool), k ≤ k' → erasureref06_Valid k b0 = some r → erasureref06_Valid k' b0 = some r := by
  intro k k' b0 r hk h
  unfold erasureref06_Valid at h ⊢
  rcases ite_or h with ⟨g_1, h⟩ | ⟨g_1, h⟩
  · refine itp g_1 ?_
    exact h
  · refine itn g_1 ?_
    exact erasureref06_Valid.p1.mono _ _ _ _ r hk h
theorem erasureref06_Valid.spec {k : Nat} {b0 : (List TEntry)} {r : Bool} (h : erasureref06_Valid k b0 = some r) : Spec Try.prog 38 [.p (eL 2 cEntry dEntry b0)] (.p (.bool r)) [] :=
  spec_of mix Try.func38 (body := bodyOf Try.f38) (by kernel_rfl) (by kernel_rfl) (erasureref06_Valid.run h)
end Go.Proofs.YtjhnpaenhdbhpaaV
set_option linter.unusedVariables false
set_option linter.unusedSimpArgs false
set_option maxRecDepth 100000
namespace Go.Proofs.YtjhnpaenhdbhpaaV
open Go Go.RowKit
noncomputable def erasurelaw35_ReleaseKeys  (k : Nat) (keys0 : (List TValue)) (n1 : Int) (more2 : (List TValue)) : Option Bool := if (decide (((keys0).length : Int) > 7)) = true then ((erasurelaw35_awake k ).bind fun y_2 => (some y_2)) else (if (decide (((more2).length : Int) > 7)) = true then ((erasurelaw35_awake k ).bind fun y_5 => (some y_5)) else ((erasureref26_CleanRow k keys0).bind fun y_7 => (if (([] : List TValue)).length + (y_7).length ≤ maxLen ∧ ((([] : List TValue)).length + (y_7).length) * 32 ≤ 140737488355328 then ((erasureref01_Int k (Go.bits .and .i64 n1 1023)).bind fun y_10 => (if ((([] : List TValue) ++ y_7)).length + ([y_10]).length ≤ maxLen ∧ (((([] : List TValue) ++ y_7)).length + ([y_10]).length) * 32 ≤ 140737488355328 then (if (([] : List TValue)).length + (((([] : List TValue) ++ y_7) ++ ([y_10]))).length ≤ maxLen ∧ ((([] : List TValue)).length + (((([] : List TValue) ++ y_7) ++ ([y_10]))).length) * 32 ≤ 140737488355328 then ((erasureref26_CleanRow k more2).bind fun y_14 => (if ((([] : List TValue) ++ ((([] : List TValue) ++ y_7) ++ ([y_10])))).length + (y_14).length ≤ maxLen ∧ (((([] : List TValue) ++ ((([] : List TValue) ++ y_7) ++ ([y_10])))).length + (y_14).length) * 32 ≤ 140737488355328 then ((release_Publish k (TRelease.mk (⟨#[]⟩ : ByteArray) (⟨#[]⟩ : ByteArray) 10) ((keys0).length : Int) ([(TEntry.mk ((([] : List TValue) ++ y_7) ++ ([y_10])) 1)])).bind fun y_17 => ((release_Publish k (TRelease.mk (⟨#[]⟩ : ByteArray) (⟨#[]⟩ : ByteArray) 10) ((keys0).length : Int) ([(TEntry.mk ((([] : List TValue) ++ ((([] : List TValue) ++ y_7) ++ ([y_10]))) ++ y_14) 1)])).bind fun y_19 => ((release_Publish k (TRelease.mk (⟨#[]⟩ : ByteArray) (⟨#[]⟩ : ByteArray) 10) ((keys0).length : Int) ([(TEntry.mk ((([] : List TValue) ++ y_7) ++ ([y_10])) 2)])).bind fun y_21 => (if (decide ((Go.bits .and .i64 n1 1023) < 10)) = true then (if (((y_17).length : Int) == 0) = true then (if (((y_19).length : Int) == 0) = true then (if (((y_21).length : Int) == 0) = true then ((erasurelaw35_awake k ).bind fun y_27 => (some y_27)) else (some false)) else (some false)) else (some false)) else (if (((y_17).length : Int) == 1) = true then (if 0 ≤ (0 : Int) ∧ (0 : Int) < ((y_17).length : Int) then ((erasureref26_CleanRow k keys0).bind fun y_31 => ((erasureref26_SameRow k ((y_17.getD (0 : Int).toNat dPublished).f0) y_31).bind fun y_33 => (if y_33 = true then ((erasureref35_Same k y_17 y_19).bind fun y_36 => (if y_36 = true then (if (((y_21).length : Int) == 0) = true then ((erasurelaw35_awake k ).bind fun y_40 => (some y_40)) else (some false)) else (some false))) else (some false)))) else none) else (some false)))))) else none)) else none) else none)) else none)))
noncomputable def erasurelaw35_ReleaseKeys.t : List Item := [.code (bodyOf Try.f6)]
noncomputable def erasurelaw35_ReleaseKeys.s (keys0 : (List TValue)) (n1 : Int) (more2 : (List TValue)) : St := ⟨frOf Try.f6.ntmps 0 [(0, .p (eL 3 cValue dValue keys0)), (1, .p (.int .i64 n1)), (2, .p (eL 3 cValue dValue more2))], []⟩
theorem erasurelaw35_ReleaseKeys.run   {k : Nat} {keys0 : (List TValue)} {n1 : Int} {more2 : (List TValue)} {r : Bool} (h : erasurelaw35_ReleaseKeys k keys0 n1 more2 = some r) : RunC Try.prog Try.f6 erasurelaw35_ReleaseKeys.t (erasurelaw35_ReleaseKeys.s keys0 n1 more2) (.p (.bool r)) [] := by
  unfold erasurelaw35_ReleaseKeys at h
  rcases ite_or h with ⟨g_1, h⟩ | ⟨g_1, h⟩
  · obtain ⟨y_2, e_3, h⟩ := bind_or h
    obtain rfl := Option.some.inj h
    exact RunC.out [.n 4, .r [(3, .dec true)], .n 2, .r [(0, .call (.p (.bool y_2)) [])]] (by kernel_rfl) (Obs.of (by kernel_rfl) (And.intro g_1 (erasurelaw35_awake.spec e_3)))
  · rcases ite_or h with ⟨g_4, h⟩ | ⟨g_4, h⟩
    · obtain ⟨y_5, e_6, h⟩ := bind_or h
      obtain rfl := Option.some.inj h
      exact RunC.out [.n 4, .r [(3, .dec false), (7, .dec true)], .n 2, .r [(0, .call (.p (.bool y_5)) [])]] (by kernel_rfl) (Obs.of (by kernel_rfl) (And.intro (nt g_1) (And.intro g_4 (erasurelaw35_awake.spec e_6))))
    · obtain ⟨y_7, e_8, h⟩ := bind_or h
      obtain ⟨g_9, h⟩ := ite_some h
      obtain ⟨y_10, e_11, h⟩ := bind_or h
      obtain ⟨g_12, h⟩ := ite_some h
      obtain ⟨g_13, h⟩ := ite_some h
      obtain ⟨y_14, e_15, h⟩ := bind_or h
      obtain ⟨g_16, h⟩ := ite_some h
      obtain ⟨y_17, e_18, h⟩ := bind_or h
      obtain ⟨y_19, e_20, h⟩ := bind_or h
      obtain ⟨y_21, e_22, h⟩ := bind_or h
      rcases ite_or h with ⟨g_23, h⟩ | ⟨g_23, h⟩
      · rcases ite_or h with ⟨g_24, h⟩ | ⟨g_24, h⟩
        · rcases ite_or h with ⟨g_25, h⟩ | ⟨g_25, h⟩
          · rcases ite_or h with ⟨g_26, h⟩ | ⟨g_26, h⟩
            · obtain ⟨y_27, e_28, h⟩ := bind_or h
              obtain rfl := Option.some.inj h
              exact RunC.out [.n 4, .r [(3, .dec false), (7, .dec false)], .n 3, .r [(0, .obj (oL true 38 3 cValue dValue ([] : List TValue))), (2, .call (.sref 0 38 3 (y_7).length) [(oL true 38 3 cValue dValue y_7)]), (3, .obj (oL true 38 3 cValue dValue (([] : List TValue) ++ y_7))), (6, .call (.agg ((cValue y_10).map .p)) []), (7, .obj (oL true 38 3 cValue dValue [y_10])), (8, .obj (oL true 38 3 cValue dValue ((([] : List TValue) ++ y_7) ++ ([y_10]))))], .n 1, .r [(0, .obj (oL true 38 3 cValue dValue ([] : List TValue))), (2, .obj (oL true 38 3 cValue dValue (([] : List TValue) ++ ((([] : List TValue) ++ y_7) ++ ([y_10]))))), (4, .call (.sref 0 38 3 (y_14).length) [(oL true 38 3 cValue dValue y_14)]), (5, .obj (oL true 38 3 cValue dValue ((([] : List TValue) ++ ((([] : List TValue) ++ y_7) ++ ([y_10]))) ++ y_14)))], .n 3, .r [(5, .obj (oL true 41 2 cEntry dEntry [(TEntry.mk ((([] : List TValue) ++ y_7) ++ ([y_10])) 1)])), (6, .call (.sref 0 43 2 (y_17).length) [(oL true 43 2 cPublished dPublished y_17)])], .n 1, .r [(5, .obj (oL true 41 2 cEntry dEntry [(TEntry.mk ((([] : List TValue) ++ ((([] : List TValue) ++ y_7) ++ ([y_10]))) ++ y_14) 1)])), (6, .call (.sref 0 43 2 (y_19).length) [(oL true 43 2 cPublished dPublished y_19)])], .n 1, .r [(5, .obj (oL true 41 2 cEntry dEntry [(TEntry.mk ((([] : List TValue) ++ y_7) ++ ([y_10])) 2)])), (6, .call (.sref 0 43 2 (y_21).length) [(oL true 43 2 cPublished dPublished y_21)])], .n 2, .r [(2, .dec true)], .n 2, .r [(3, .dec true), (8, .dec true), (13, .dec true), (14, .call (.p (.bool y_27)) [])]] (by kernel_rfl) (Obs.of (by kernel_rfl) (And.intro (nt g_1) (And.intro (nt g_4) (And.intro (le_build0 38 3 cValue dValue) (And.intro (erasureref26_CleanRow.spec e_8) (And.intro (And.intro g_9 (le_app 38 3 cValue dValue ([] : List TValue) y_7)) (And.intro (erasureref01_Int.spec e_11) (And.intro (le_one 38 3 cValue dValue y_10) (And.intro (And.intro g_12 (le_app 38 3 cValue dValue (([] : List TValue) ++ y_7) ([y_10]))) (And.intro (le_build0 38 3 cValue dValue) (And.intro (And.intro g_13 (le_app 38 3 cValue dValue ([] : List TValue) ((([] : List TValue) ++ y_7) ++ ([y_10])))) (And.intro (erasureref26_CleanRow.spec e_15) (And.intro (And.intro g_16 (le_app 38 3 cValue dValue (([] : List TValue) ++ ((([] : List TValue) ++ y_7) ++ ([y_10]))) y_14)) (And.intro (le_one 41 2 cEntry dEntry (TEntry.mk ((([] : List TValue) ++ y_7) ++ ([y_10])) 1)) (And.intro (release_Publish.spec e_18) (And.intro (le_one 41 2 cEntry dEntry (TEntry.mk ((([] : List TValue) ++ ((([] : List TValue) ++ y_7) ++ ([y_10]))) ++ y_14) 1)) (And.intro (release_Publish.spec e_20) (And.intro (le_one 41 2 cEntry dEntry (TEntry.mk ((([] : List TValue) ++ y_7) ++ ([y_10])) 2)) (And.intro (release_Publish.spec e_22) (And.intro g_23 (And.intro g_24 (And.intro g_25 (And.intro g_26 (erasurelaw35_awake.spec e_28))))))))))))))))))))))))
            · obtain rfl := Option.some.inj h
              exact RunC.out [.n 4, .r [(3, .dec false), (7, .dec false)], .n 3, .r [(0, .obj (oL true 38 3 cValue dValue ([] : List TValue))), (2, .call (.sref 0 38 3 (y_7).length) [(oL true 38 3 cValue dValue y_7)]), (3, .obj (oL true 38 3 cValue dValue (([] : List TValue) ++ y_7))), (6, .call (.agg ((cValue y_10).map .p)) []), (7, .obj (oL true 38 3 cValue dValue [y_10])), (8, .obj (oL true 38 3 cValue dValue ((([] : List TValue) ++ y_7) ++ ([y_10]))))], .n 1, .r [(0, .obj (oL true 38 3 cValue dValue ([] : List TValue))), (2, .obj (oL true 38 3 cValue dValue (([] : List TValue) ++ ((([] : List TValue) ++ y_7) ++ ([y_10]))))), (4, .call (.sref 0 38 3 (y_14).length) [(oL true 38 3 cValue dValue y_14)]), (5, .obj (oL true 38 3 cValue dValue ((([] : List TValue) ++ ((([] : List TValue) ++ y_7) ++ ([y_10]))) ++ y_14)))], .n 3, .r [(5, .obj (oL true 41 2 cEntry dEntry [(TEntry.mk ((([] : List TValue) ++ y_7) ++ ([y_10])) 1)])), (6, .call (.sref 0 43 2 (y_17).length) [(oL true 43 2 cPublished dPublished y_17)])], .n 1, .r [(5, .obj (oL true 41 2 cEntry dEntry [(TEntry.mk ((([] : List TValue) ++ ((([] : List TValue) ++ y_7) ++ ([y_10]))) ++ y_14) 1)])), (6, .call (.sref 0 43 2 (y_19).length) [(oL true 43 2 cPublished dPublished y_19)])], .n 1, .r [(5, .obj (oL true 41 2 cEntry dEntry [(TEntry.mk ((([] : List TValue) ++ y_7) ++ ([y_10])) 2)])), (6, .call (.sref 0 43 2 (y_21).length) [(oL true 43 2 cPublished dPublished y_21)])], .n 2, .r [(2, .dec true)], .n 2, .r [(3, .dec true), (8, .dec true), (13, .dec false)]] (by kernel_rfl) (Obs.of (by kernel_rfl) (And.intro (nt g_1) (And.intro (nt g_4) (And.intro (le_build0 38 3 cValue dValue) (And.intro (erasureref26_CleanRow.spec e_8) (And.intro (And.intro g_9 (le_app 38 3 cValue dValue ([] : List TValue) y_7)) (And.intro (erasureref01_Int.spec e_11) (And.intro (le_one 38 3 cValue dValue y_10) (And.intro (And.intro g_12 (le_app 38 3 cValue dValue (([] : List TValue) ++ y_7) ([y_10]))) (And.intro (le_build0 38 3 cValue dValue) (And.intro (And.intro g_13 (le_app 38 3 cValue dValue ([] : List TValue) ((([] : List TValue) ++ y_7) ++ ([y_10])))) (And.intro (erasureref26_CleanRow.spec e_15) (And.intro (And.intro g_16 (le_app 38 3 cValue dValue (([] : List TValue) ++ ((([] : List TValue) ++ y_7) ++ ([y_10]))) y_14)) (And.intro (le_one 41 2 cEntry dEntry (TEntry.mk ((([] : List TValue) ++ y_7) ++ ([y_10])) 1)) (And.intro (release_Publish.spec e_18) (And.intro (le_one 41 2 cEntry dEntry (TEntry.mk ((([] : List TValue) ++ ((([] : List TValue) ++ y_7) ++ ([y_10]))) ++ y_14) 1)) (And.intro (release_Publish.spec e_20) (And.intro (le_one 41 2 cEntry dEntry (TEntry.mk ((([] : List TValue) ++ y_7) ++ ([y_10])) 2)) (And.intro (release_Publish.spec e_22) (And.intro g_23 (And.intro g_24 (And.intro g_25 (nt g_26)))))))))))))))))))))))
          · obtain rfl := Option.some.inj h
            exact RunC.out [.n 4, .r [(3, .dec false), (7, .dec false)], .n 3, .r [(0, .obj (oL true 38 3 cValue dValue ([] : List TValue))), (2, .call (.sref 0 38 3 (y_7).length) [(oL true 38 3 cValue dValue y_7)]), (3, .obj (oL true 38 3 cValue dValue (([] : List TValue) ++ y_7))), (6, .call (.agg ((cValue y_10).map .p)) []), (7, .obj (oL true 38 3 cValue dValue [y_10])), (8, .obj (oL true 38 3 cValue dValue ((([] : List TValue) ++ y_7) ++ ([y_10]))))], .n 1, .r [(0, .obj (oL true 38 3 cValue dValue ([] : List TValue))), (2, .obj (oL true 38 3 cValue dValue (([] : List TValue) ++ ((([] : List TValue) ++ y_7) ++ ([y_10]))))), (4, .call (.sref 0 38 3 (y_14).length) [(oL true 38 3 cValue dValue y_14)]), (5, .obj (oL true 38 3 cValue dValue ((([] : List TValue) ++ ((([] : List TValue) ++ y_7) ++ ([y_10]))) ++ y_14)))], .n 3, .r [(5, .obj (oL true 41 2 cEntry dEntry [(TEntry.mk ((([] : List TValue) ++ y_7) ++ ([y_10])) 1)])), (6, .call (.sref 0 43 2 (y_17).length) [(oL true 43 2 cPublished dPublished y_17)])], .n 1, .r [(5, .obj (oL true 41 2 cEntry dEntry [(TEntry.mk ((([] : List TValue) ++ ((([] : List TValue) ++ y_7) ++ ([y_10]))) ++ y_14) 1)])), (6, .call (.sref 0 43 2 (y_19).length) [(oL true 43 2 cPublished dPublished y_19)])], .n 1, .r [(5, .obj (oL true 41 2 cEntry dEntry [(TEntry.mk ((([] : List TValue) ++ y_7) ++ ([y_10])) 2)])), (6, .call (.sref 0 43 2 (y_21).length) [(oL true 43 2 cPublished dPublished y_21)])], .n 2, .r [(2, .dec true)], .n 2, .r [(3, .dec true), (8, .dec false)]] (by kernel_rfl) (Obs.of (by kernel_rfl) (And.intro (nt g_1) (And.intro (nt g_4) (And.intro (le_build0 38 3 cValue dValue) (And.intro (erasureref26_CleanRow.spec e_8) (And.intro (And.intro g_9 (le_app 38 3 cValue dValue ([] : List TValue) y_7)) (And.intro (erasureref01_Int.spec e_11) (And.intro (le_one 38 3 cValue dValue y_10) (And.intro (And.intro g_12 (le_app 38 3 cValue dValue (([] : List TValue) ++ y_7) ([y_10]))) (And.intro (le_build0 38 3 cValue dValue) (And.intro (And.intro g_13 (le_app 38 3 cValue dValue ([] : List TValue) ((([] : List TValue) ++ y_7) ++ ([y_10])))) (And.intro (erasureref26_CleanRow.spec e_15) (And.intro (And.intro g_16 (le_app 38 3 cValue dValue (([] : List TValue) ++ ((([] : List TValue) ++ y_7) ++ ([y_10]))) y_14)) (And.intro (le_one 41 2 cEntry dEntry (TEntry.mk ((([] : List TValue) ++ y_7) ++ ([y_10])) 1)) (And.intro (release_Publish.spec e_18) (And.intro (le_one 41 2 cEntry dEntry (TEntry.mk ((([] : List TValue) ++ ((([] : List TValue) ++ y_7) ++ ([y_10]))) ++ y_14) 1)) (And.intro (release_Publish.spec e_20) (And.intro (le_one 41 2 cEntry dEntry (TEntry.mk ((([] : List TValue) ++ y_7) ++ ([y_10])) 2)) (And.intro (release_Publish.spec e_22) (And.intro g_23 (And.intro g_24 (nt g_25))))))))))))))))))))))
        · obtain rfl := Option.some.inj h
          exact RunC.out [.n 4, .r [(3, .dec false), (7, .dec false)], .n 3, .r [(0, .obj (oL true 38 3 cValue dValue ([] : List TValue))), (2, .call (.sref 0 38 3 (y_7).length) [(oL true 38 3 cValue dValue y_7)]), (3, .obj (oL true 38 3 cValue dValue (([] : List TValue) ++ y_7))), (6, .call (.agg ((cValue y_10).map .p)) []), (7, .obj (oL true 38 3 cValue dValue [y_10])), (8, .obj (oL true 38 3 cValue dValue ((([] : List TValue) ++ y_7) ++ ([y_10]))))], .n 1, .r [(0, .obj (oL true 38 3 cValue dValue ([] : List TValue))), (2, .obj (oL true 38 3 cValue dValue (([] : List TValue) ++ ((([] : List TValue) ++ y_7) ++ ([y_10]))))), (4, .call (.sref 0 38 3 (y_14).length) [(oL true 38 3 cValue dValue y_14)]), (5, .obj (oL true 38 3 cValue dValue ((([] : List TValue) ++ ((([] : List TValue) ++ y_7) ++ ([y_10]))) ++ y_14)))], .n 3, .r [(5, .obj (oL true 41 2 cEntry dEntry [(TEntry.mk ((([] : List TValue) ++ y_7) ++ ([y_10])) 1)])), (6, .call (.sref 0 43 2 (y_17).length) [(oL true 43 2 cPublished dPublished y_17)])], .n 1, .r [(5, .obj (oL true 41 2 cEntry dEntry [(TEntry.mk ((([] : List TValue) ++ ((([] : List TValue) ++ y_7) ++ ([y_10]))) ++ y_14) 1)])), (6, .call (.sref 0 43 2 (y_19).length) [(oL true 43 2 cPublished dPublished y_19)])], .n 1, .r [(5, .obj (oL true 41 2 cEntry dEntry [(TEntry.mk ((([] : List TValue) ++ y_7) ++ ([y_10])) 2)])), (6, .call (.sref 0 43 2 (y_21).length) [(oL true 43 2 cPublished dPublished y_21)])], .n 2, .r [(2, .dec true)], .n 2, .r [(3, .dec false)]] (by kernel_rfl) (Obs.of (by kernel_rfl) (And.intro (nt g_1) (And.intro (nt g_4) (And.intro (le_build0 38 3 cValue dValue) (And.intro (erasureref26_CleanRow.spec e_8) (And.intro (And.intro g_9 (le_app 38 3 cValue dValue ([] : List TValue) y_7)) (And.intro (erasureref01_Int.spec e_11) (And.intro (le_one 38 3 cValue dValue y_10) (And.intro (And.intro g_12 (le_app 38 3 cValue dValue (([] : List TValue) ++ y_7) ([y_10]))) (And.intro (le_build0 38 3 cValue dValue) (And.intro (And.intro g_13 (le_app 38 3 cValue dValue ([] : List TValue) ((([] : List TValue) ++ y_7) ++ ([y_10])))) (And.intro (erasureref26_CleanRow.spec e_15) (And.intro (And.intro g_16 (le_app 38 3 cValue dValue (([] : List TValue) ++ ((([] : List TValue) ++ y_7) ++ ([y_10]))) y_14)) (And.intro (le_one 41 2 cEntry dEntry (TEntry.mk ((([] : List TValue) ++ y_7) ++ ([y_10])) 1)) (And.intro (release_Publish.spec e_18) (And.intro (le_one 41 2 cEntry dEntry (TEntry.mk ((([] : List TValue) ++ ((([] : List TValue) ++ y_7) ++ ([y_10]))) ++ y_14) 1)) (And.intro (release_Publish.spec e_20) (And.intro (le_one 41 2 cEntry dEntry (TEntry.mk ((([] : List TValue) ++ y_7) ++ ([y_10])) 2)) (And.intro (release_Publish.spec e_22) (And.intro g_23 (nt g_24)))))))))))))))))))))
      · rcases ite_or h with ⟨g_29, h⟩ | ⟨g_29, h⟩
        · obtain ⟨g_30, h⟩ := ite_some h
          obtain ⟨y_31, e_32, h⟩ := bind_or h
          obtain ⟨y_33, e_34, h⟩ := bind_or h
          rcases ite_or h with ⟨g_35, h⟩ | ⟨g_35, h⟩
          · obtain ⟨y_36, e_37, h⟩ := bind_or h
            rcases ite_or h with ⟨g_38, h⟩ | ⟨g_38, h⟩
            · rcases ite_or h with ⟨g_39, h⟩ | ⟨g_39, h⟩
              · obtain ⟨y_40, e_41, h⟩ := bind_or h
                obtain rfl := Option.some.inj h
                exact RunC.out [.n 4, .r [(3, .dec false), (7, .dec false)], .n 3, .r [(0, .obj (oL true 38 3 cValue dValue ([] : List TValue))), (2, .call (.sref 0 38 3 (y_7).length) [(oL true 38 3 cValue dValue y_7)]), (3, .obj (oL true 38 3 cValue dValue (([] : List TValue) ++ y_7))), (6, .call (.agg ((cValue y_10).map .p)) []), (7, .obj (oL true 38 3 cValue dValue [y_10])), (8, .obj (oL true 38 3 cValue dValue ((([] : List TValue) ++ y_7) ++ ([y_10]))))], .n 1, .r [(0, .obj (oL true 38 3 cValue dValue ([] : List TValue))), (2, .obj (oL true 38 3 cValue dValue (([] : List TValue) ++ ((([] : List TValue) ++ y_7) ++ ([y_10]))))), (4, .call (.sref 0 38 3 (y_14).length) [(oL true 38 3 cValue dValue y_14)]), (5, .obj (oL true 38 3 cValue dValue ((([] : List TValue) ++ ((([] : List TValue) ++ y_7) ++ ([y_10]))) ++ y_14)))], .n 3, .r [(5, .obj (oL true 41 2 cEntry dEntry [(TEntry.mk ((([] : List TValue) ++ y_7) ++ ([y_10])) 1)])), (6, .call (.sref 0 43 2 (y_17).length) [(oL true 43 2 cPublished dPublished y_17)])], .n 1, .r [(5, .obj (oL true 41 2 cEntry dEntry [(TEntry.mk ((([] : List TValue) ++ ((([] : List TValue) ++ y_7) ++ ([y_10]))) ++ y_14) 1)])), (6, .call (.sref 0 43 2 (y_19).length) [(oL true 43 2 cPublished dPublished y_19)])], .n 1, .r [(5, .obj (oL true 41 2 cEntry dEntry [(TEntry.mk ((([] : List TValue) ++ y_7) ++ ([y_10])) 2)])), (6, .call (.sref 0 43 2 (y_21).length) [(oL true 43 2 cPublished dPublished y_21)])], .n 2, .r [(2, .dec false)], .n 3, .r [(3, .dec true), (9, .call (.sref 0 38 3 (y_31).length) [(oL true 38 3 cValue dValue y_31)]), (10, .call (.p (.bool y_33)) []), (12, .dec true), (15, .call (.p (.bool y_36)) []), (17, .dec true), (22, .dec true), (23, .call (.p (.bool y_40)) [])]] (by kernel_rfl) (Obs.of (by kernel_rfl) (And.intro (nt g_1) (And.intro (nt g_4) (And.intro (le_build0 38 3 cValue dValue) (And.intro (erasureref26_CleanRow.spec e_8) (And.intro (And.intro g_9 (le_app 38 3 cValue dValue ([] : List TValue) y_7)) (And.intro (erasureref01_Int.spec e_11) (And.intro (le_one 38 3 cValue dValue y_10) (And.intro (And.intro g_12 (le_app 38 3 cValue dValue (([] : List TValue) ++ y_7) ([y_10]))) (And.intro (le_build0 38 3 cValue dValue) (And.intro (And.intro g_13 (le_app 38 3 cValue dValue ([] : List TValue) ((([] : List TValue) ++ y_7) ++ ([y_10])))) (And.intro (erasureref26_CleanRow.spec e_15) (And.intro (And.intro g_16 (le_app 38 3 cValue dValue (([] : List TValue) ++ ((([] : List TValue) ++ y_7) ++ ([y_10]))) y_14)) (And.intro (le_one 41 2 cEntry dEntry (TEntry.mk ((([] : List TValue) ++ y_7) ++ ([y_10])) 1)) (And.intro (release_Publish.spec e_18) (And.intro (le_one 41 2 cEntry dEntry (TEntry.mk ((([] : List TValue) ++ ((([] : List TValue) ++ y_7) ++ ([y_10]))) ++ y_14) 1)) (And.intro (release_Publish.spec e_20) (And.intro (le_one 41 2 cEntry dEntry (TEntry.mk ((([] : List TValue) ++ y_7) ++ ([y_10])) 2)) (And.intro (release_Publish.spec e_22) (And.intro (nt g_23) (And.intro g_29 (And.intro g_30 (And.intro (erasureref26_CleanRow.spec e_32) (And.intro (erasureref26_SameRow.spec e_34) (And.intro g_35 (And.intro (erasureref35_Same.spec e_37) (And.intro g_38 (And.intro g_39 (erasurelaw35_awake.spec e_41)))))))))))))))))))))))))))))
              · obtain rfl := Option.some.inj h
                exact RunC.out [.n 4, .r [(3, .dec false), (7, .dec false)], .n 3, .r [(0, .obj (oL true 38 3 cValue dValue ([] : List TValue))), (2, .call (.sref 0 38 3 (y_7).length) [(oL true 38 3 cValue dValue y_7)]), (3, .obj (oL true 38 3 cValue dValue (([] : List TValue) ++ y_7))), (6, .call (.agg ((cValue y_10).map .p)) []), (7, .obj (oL true 38 3 cValue dValue [y_10])), (8, .obj (oL true 38 3 cValue dValue ((([] : List TValue) ++ y_7) ++ ([y_10]))))], .n 1, .r [(0, .obj (oL true 38 3 cValue dValue ([] : List TValue))), (2, .obj (oL true 38 3 cValue dValue (([] : List TValue) ++ ((([] : List TValue) ++ y_7) ++ ([y_10]))))), (4, .call (.sref 0 38 3 (y_14).length) [(oL true 38 3 cValue dValue y_14)]), (5, .obj (oL true 38 3 cValue dValue ((([] : List TValue) ++ ((([] : List TValue) ++ y_7) ++ ([y_10]))) ++ y_14)))], .n 3, .r [(5, .obj (oL true 41 2 cEntry dEntry [(TEntry.mk ((([] : List TValue) ++ y_7) ++ ([y_10])) 1)])), (6, .call (.sref 0 43 2 (y_17).length) [(oL true 43 2 cPublished dPublished y_17)])], .n 1, .r [(5, .obj (oL true 41 2 cEntry dEntry [(TEntry.mk ((([] : List TValue) ++ ((([] : List TValue) ++ y_7) ++ ([y_10]))) ++ y_14) 1)])), (6, .call (.sref 0 43 2 (y_19).length) [(oL true 43 2 cPublished dPublished y_19)])], .n 1, .r [(5, .obj (oL true 41 2 cEntry dEntry [(TEntry.mk ((([] : List TValue) ++ y_7) ++ ([y_10])) 2)])), (6, .call (.sref 0 43 2 (y_21).length) [(oL true 43 2 cPublished dPublished y_21)])], .n 2, .r [(2, .dec false)], .n 3, .r [(3, .dec true), (9, .call (.sref 0 38 3 (y_31).length) [(oL true 38 3 cValue dValue y_31)]), (10, .call (.p (.bool y_33)) []), (12, .dec true), (15, .call (.p (.bool y_36)) []), (17, .dec true), (22, .dec false)]] (by kernel_rfl) (Obs.of (by kernel_rfl) (And.intro (nt g_1) (And.intro (nt g_4) (And.intro (le_build0 38 3 cValue dValue) (And.intro (erasureref26_CleanRow.spec e_8) (And.intro (And.intro g_9 (le_app 38 3 cValue dValue ([] : List TValue) y_7)) (And.intro (erasureref01_Int.spec e_11) (And.intro (le_one 38 3 cValue dValue y_10) (And.intro (And.intro g_12 (le_app 38 3 cValue dValue (([] : List TValue) ++ y_7) ([y_10]))) (And.intro (le_build0 38 3 cValue dValue) (And.intro (And.intro g_13 (le_app 38 3 cValue dValue ([] : List TValue) ((([] : List TValue) ++ y_7) ++ ([y_10])))) (And.intro (erasureref26_CleanRow.spec e_15) (And.intro (And.intro g_16 (le_app 38 3 cValue dValue (([] : List TValue) ++ ((([] : List TValue) ++ y_7) ++ ([y_10]))) y_14)) (And.intro (le_one 41 2 cEntry dEntry (TEntry.mk ((([] : List TValue) ++ y_7) ++ ([y_10])) 1)) (And.intro (release_Publish.spec e_18) (And.intro (le_one 41 2 cEntry dEntry (TEntry.mk ((([] : List TValue) ++ ((([] : List TValue) ++ y_7) ++ ([y_10]))) ++ y_14) 1)) (And.intro (release_Publish.spec e_20) (And.intro (le_one 41 2 cEntry dEntry (TEntry.mk ((([] : List TValue) ++ y_7) ++ ([y_10])) 2)) (And.intro (release_Publish.spec e_22) (And.intro (nt g_23) (And.intro g_29 (And.intro g_30 (And.intro (erasureref26_CleanRow.spec e_32) (And.intro (erasureref26_SameRow.spec e_34) (And.intro g_35 (And.intro (erasureref35_Same.spec e_37) (And.intro g_38 (nt g_39))))))))))))))))))))))))))))
            · obtain rfl := Option.some.inj h
              exact RunC.out [.n 4, .r [(3, .dec false), (7, .dec false)], .n 3, .r [(0, .obj (oL true 38 3 cValue dValue ([] : List TValue))), (2, .call (.sref 0 38 3 (y_7).length) [(oL true 38 3 cValue dValue y_7)]), (3, .obj (oL true 38 3 cValue dValue (([] : List TValue) ++ y_7))), (6, .call (.agg ((cValue y_10).map .p)) []), (7, .obj (oL true 38 3 cValue dValue [y_10])), (8, .obj (oL true 38 3 cValue dValue ((([] : List TValue) ++ y_7) ++ ([y_10]))))], .n 1, .r [(0, .obj (oL true 38 3 cValue dValue ([] : List TValue))), (2, .obj (oL true 38 3 cValue dValue (([] : List TValue) ++ ((([] : List TValue) ++ y_7) ++ ([y_10]))))), (4, .call (.sref 0 38 3 (y_14).length) [(oL true 38 3 cValue dValue y_14)]), (5, .obj (oL true 38 3 cValue dValue ((([] : List TValue) ++ ((([] : List TValue) ++ y_7) ++ ([y_10]))) ++ y_14)))], .n 3, .r [(5, .obj (oL true 41 2 cEntry dEntry [(TEntry.mk ((([] : List TValue) ++ y_7) ++ ([y_10])) 1)])), (6, .call (.sref 0 43 2 (y_17).length) [(oL true 43 2 cPublished dPublished y_17)])], .n 1, .r [(5, .obj (oL true 41 2 cEntry dEntry [(TEntry.mk ((([] : List TValue) ++ ((([] : List TValue) ++ y_7) ++ ([y_10]))) ++ y_14) 1)])), (6, .call (.sref 0 43 2 (y_19).length) [(oL true 43 2 cPublished dPublished y_19)])], .n 1, .r [(5, .obj (oL true 41 2 cEntry dEntry [(TEntry.mk ((([] : List TValue) ++ y_7) ++ ([y_10])) 2)])), (6, .call (.sref 0 43 2 (y_21).length) [(oL true 43 2 cPublished dPublished y_21)])], .n 2, .r [(2, .dec false)], .n 3, .r [(3, .dec true), (9, .call (.sref 0 38 3 (y_31).length) [(oL true 38 3 cValue dValue y_31)]), (10, .call (.p (.bool y_33)) []), (12, .dec true), (15, .call (.p (.bool y_36)) []), (17, .dec false)]] (by kernel_rfl) (Obs.of (by kernel_rfl) (And.intro (nt g_1) (And.intro (nt g_4) (And.intro (le_build0 38 3 cValue dValue) (And.intro (erasureref26_CleanRow.spec e_8) (And.intro (And.intro g_9 (le_app 38 3 cValue dValue ([] : List TValue) y_7)) (And.intro (erasureref01_Int.spec e_11) (And.intro (le_one 38 3 cValue dValue y_10) (And.intro (And.intro g_12 (le_app 38 3 cValue dValue (([] : List TValue) ++ y_7) ([y_10]))) (And.intro (le_build0 38 3 cValue dValue) (And.intro (And.intro g_13 (le_app 38 3 cValue dValue ([] : List TValue) ((([] : List TValue) ++ y_7) ++ ([y_10])))) (And.intro (erasureref26_CleanRow.spec e_15) (And.intro (And.intro g_16 (le_app 38 3 cValue dValue (([] : List TValue) ++ ((([] : List TValue) ++ y_7) ++ ([y_10]))) y_14)) (And.intro (le_one 41 2 cEntry dEntry (TEntry.mk ((([] : List TValue) ++ y_7) ++ ([y_10])) 1)) (And.intro (release_Publish.spec e_18) (And.intro (le_one 41 2 cEntry dEntry (TEntry.mk ((([] : List TValue) ++ ((([] : List TValue) ++ y_7) ++ ([y_10]))) ++ y_14) 1)) (And.intro (release_Publish.spec e_20) (And.intro (le_one 41 2 cEntry dEntry (TEntry.mk ((([] : List TValue) ++ y_7) ++ ([y_10])) 2)) (And.intro (release_Publish.spec e_22) (And.intro (nt g_23) (And.intro g_29 (And.intro g_30 (And.intro (erasureref26_CleanRow.spec e_32) (And.intro (erasureref26_SameRow.spec e_34) (And.intro g_35 (And.intro (erasureref35_Same.spec e_37) (nt g_38)))))))))))))))))))))))))))
          · obtain rfl := Option.some.inj h
            exact RunC.out [.n 4, .r [(3, .dec false), (7, .dec false)], .n 3, .r [(0, .obj (oL true 38 3 cValue dValue ([] : List TValue))), (2, .call (.sref 0 38 3 (y_7).length) [(oL true 38 3 cValue dValue y_7)]), (3, .obj (oL true 38 3 cValue dValue (([] : List TValue) ++ y_7))), (6, .call (.agg ((cValue y_10).map .p)) []), (7, .obj (oL true 38 3 cValue dValue [y_10])), (8, .obj (oL true 38 3 cValue dValue ((([] : List TValue) ++ y_7) ++ ([y_10]))))], .n 1, .r [(0, .obj (oL true 38 3 cValue dValue ([] : List TValue))), (2, .obj (oL true 38 3 cValue dValue (([] : List TValue) ++ ((([] : List TValue) ++ y_7) ++ ([y_10]))))), (4, .call (.sref 0 38 3 (y_14).length) [(oL true 38 3 cValue dValue y_14)]), (5, .obj (oL true 38 3 cValue dValue ((([] : List TValue) ++ ((([] : List TValue) ++ y_7) ++ ([y_10]))) ++ y_14)))], .n 3, .r [(5, .obj (oL true 41 2 cEntry dEntry [(TEntry.mk ((([] : List TValue) ++ y_7) ++ ([y_10])) 1)])), (6, .call (.sref 0 43 2 (y_17).length) [(oL true 43 2 cPublished dPublished y_17)])], .n 1, .r [(5, .obj (oL true 41 2 cEntry dEntry [(TEntry.mk ((([] : List TValue) ++ ((([] : List TValue) ++ y_7) ++ ([y_10]))) ++ y_14) 1)])), (6, .call (.sref 0 43 2 (y_19).length) [(oL true 43 2 cPublished dPublished y_19)])], .n 1, .r [(5, .obj (oL true 41 2 cEntry dEntry [(TEntry.mk ((([] : List TValue) ++ y_7) ++ ([y_10])) 2)])), (6, .call (.sref 0 43 2 (y_21).length) [(oL true 43 2 cPublished dPublished y_21)])], .n 2, .r [(2, .dec false)], .n 3, .r [(3, .dec true), (9, .call (.sref 0 38 3 (y_31).length) [(oL true 38 3 cValue dValue y_31)]), (10, .call (.p (.bool y_33)) []), (12, .dec false)]] (by kernel_rfl) (Obs.of (by kernel_rfl) (And.intro (nt g_1) (And.intro (nt g_4) (And.intro (le_build0 38 3 cValue dValue) (And.intro (erasureref26_CleanRow.spec e_8) (And.intro (And.intro g_9 (le_app 38 3 cValue dValue ([] : List TValue) y_7)) (And.intro (erasureref01_Int.spec e_11) (And.intro (le_one 38 3 cValue dValue y_10) (And.intro (And.intro g_12 (le_app 38 3 cValue dValue (([] : List TValue) ++ y_7) ([y_10]))) (And.intro (le_build0 38 3 cValue dValue) (And.intro (And.intro g_13 (le_app 38 3 cValue dValue ([] : List TValue) ((([] : List TValue) ++ y_7) ++ ([y_10])))) (And.intro (erasureref26_CleanRow.spec e_15) (And.intro (And.intro g_16 (le_app 38 3 cValue dValue (([] : List TValue) ++ ((([] : List TValue) ++ y_7) ++ ([y_10]))) y_14)) (And.intro (le_one 41 2 cEntry dEntry (TEntry.mk ((([] : List TValue) ++ y_7) ++ ([y_10])) 1)) (And.intro (release_Publish.spec e_18) (And.intro (le_one 41 2 cEntry dEntry (TEntry.mk ((([] : List TValue) ++ ((([] : List TValue) ++ y_7) ++ ([y_10]))) ++ y_14) 1)) (And.intro (release_Publish.spec e_20) (And.intro (le_one 41 2 cEntry dEntry (TEntry.mk ((([] : List TValue) ++ y_7) ++ ([y_10])) 2)) (And.intro (release_Publish.spec e_22) (And.intro (nt g_23) (And.intro g_29 (And.intro g_30 (And.intro (erasureref26_CleanRow.spec e_32) (And.intro (erasureref26_SameRow.spec e_34) (nt g_35)))))))))))))))))))))))))
        · obtain rfl := Option.some.inj h
          exact RunC.out [.n 4, .r [(3, .dec false), (7, .dec false)], .n 3, .r [(0, .obj (oL true 38 3 cValue dValue ([] : List TValue))), (2, .call (.sref 0 38 3 (y_7).length) [(oL true 38 3 cValue dValue y_7)]), (3, .obj (oL true 38 3 cValue dValue (([] : List TValue) ++ y_7))), (6, .call (.agg ((cValue y_10).map .p)) []), (7, .obj (oL true 38 3 cValue dValue [y_10])), (8, .obj (oL true 38 3 cValue dValue ((([] : List TValue) ++ y_7) ++ ([y_10]))))], .n 1, .r [(0, .obj (oL true 38 3 cValue dValue ([] : List TValue))), (2, .obj (oL true 38 3 cValue dValue (([] : List TValue) ++ ((([] : List TValue) ++ y_7) ++ ([y_10]))))), (4, .call (.sref 0 38 3 (y_14).length) [(oL true 38 3 cValue dValue y_14)]), (5, .obj (oL true 38 3 cValue dValue ((([] : List TValue) ++ ((([] : List TValue) ++ y_7) ++ ([y_10]))) ++ y_14)))], .n 3, .r [(5, .obj (oL true 41 2 cEntry dEntry [(TEntry.mk ((([] : List TValue) ++ y_7) ++ ([y_10])) 1)])), (6, .call (.sref 0 43 2 (y_17).length) [(oL true 43 2 cPublished dPublished y_17)])], .n 1, .r [(5, .obj (oL true 41 2 cEntry dEntry [(TEntry.mk ((([] : List TValue) ++ ((([] : List TValue) ++ y_7) ++ ([y_10]))) ++ y_14) 1)])), (6, .call (.sref 0 43 2 (y_19).length) [(oL true 43 2 cPublished dPublished y_19)])], .n 1, .r [(5, .obj (oL true 41 2 cEntry dEntry [(TEntry.mk ((([] : List TValue) ++ y_7) ++ ([y_10])) 2)])), (6, .call (.sref 0 43 2 (y_21).length) [(oL true 43 2 cPublished dPublished y_21)])], .n 2, .r [(2, .dec false)], .n 3, .r [(3, .dec false)]] (by kernel_rfl) (Obs.of (by kernel_rfl) (And.intro (nt g_1) (And.intro (nt g_4) (And.intro (le_build0 38 3 cValue dValue) (And.intro (erasureref26_CleanRow.spec e_8) (And.intro (And.intro g_9 (le_app 38 3 cValue dValue ([] : List TValue) y_7)) (And.intro (erasureref01_Int.spec e_11) (And.intro (le_one 38 3 cValue dValue y_10) (And.intro (And.intro g_12 (le_app 38 3 cValue dValue (([] : List TValue) ++ y_7) ([y_10]))) (And.intro (le_build0 38 3 cValue dValue) (And.intro (And.intro g_13 (le_app 38 3 cValue dValue ([] : List TValue) ((([] : List TValue) ++ y_7) ++ ([y_10])))) (And.intro (erasureref26_CleanRow.spec e_15) (And.intro (And.intro g_16 (le_app 38 3 cValue dValue (([] : List TValue) ++ ((([] : List TValue) ++ y_7) ++ ([y_10]))) y_14)) (And.intro (le_one 41 2 cEntry dEntry (TEntry.mk ((([] : List TValue) ++ y_7) ++ ([y_10])) 1)) (And.intro (release_Publish.spec e_18) (And.intro (le_one 41 2 cEntry dEntry (TEntry.mk ((([] : List TValue) ++ ((([] : List TValue) ++ y_7) ++ ([y_10]))) ++ y_14) 1)) (And.intro (release_Publish.spec e_20) (And.intro (le_one 41 2 cEntry dEntry (TEntry.mk ((([] : List TValue) ++ y_7) ++ ([y_10])) 2)) (And.intro (release_Publish.spec e_22) (And.intro (nt g_23) (nt g_29)))))))))))))))))))))
theorem erasurelaw35_ReleaseKeys.mono   : ∀ (k k' : Nat) (keys0 : (List TValue)) (n1 : Int) (more2 : (List TValue)) (r : Bool), k ≤ k' → erasurelaw35_ReleaseKeys k keys0 n1 more2 = some r → erasurelaw35_ReleaseKeys k' keys0 n1 more2 = some r := by
  intro k k' keys0 n1 more2 r hk h
  unfold erasurelaw35_ReleaseKeys at h ⊢
  rcases ite_or h with ⟨g_1, h⟩ | ⟨g_1, h⟩
  · refine itp g_1 ?_
    obtain ⟨y_2, e_3, h⟩ := bind_or h
    refine bnd (erasurelaw35_awake.mono _ _  _ hk e_3) ?_
    exact h
  · refine itn g_1 ?_
    rcases ite_or h with ⟨g_4, h⟩ | ⟨g_4, h⟩
    · refine itp g_4 ?_
      obtain ⟨y_5, e_6, h⟩ := bind_or h
      refine bnd (erasurelaw35_awake.mono _ _  _ hk e_6) ?_
      exact h
    · refine itn g_4 ?_
      obtain ⟨y_7, e_8, h⟩ := bind_or h
      refine bnd (erasureref26_CleanRow.mono _ _ _ _ hk e_8) ?_
      obtain ⟨g_9, h⟩ := ite_some h
      refine itp g_9 ?_
      obtain ⟨y_10, e_11, h⟩ := bind_or h
      refine bnd (erasureref01_Int.mono _ _ _ _ hk e_11) ?_
      obtain ⟨g_12, h⟩ := ite_some h
      refine itp g_12 ?_
      obtain ⟨g_13, h⟩ := ite_some h
      refine itp g_13 ?_
      obtain ⟨y_14, e_15, h⟩ := bind_or h
      refine bnd (erasureref26_CleanRow.mono _ _ _ _ hk e_15) ?_
      obtain ⟨g_16, h⟩ := ite_some h
      refine itp g_16 ?_
      obtain ⟨y_17, e_18, h⟩ := bind_or h
      refine bnd (release_Publish.mono _ _ _ _ _ _ hk e_18) ?_
      obtain ⟨y_19, e_20, h⟩ := bind_or h
      refine bnd (release_Publish.mono _ _ _ _ _ _ hk e_20) ?_
      obtain ⟨y_21, e_22, h⟩ := bind_or h
      refine bnd (release_Publish.mono _ _ _ _ _ _ hk e_22) ?_
      rcases ite_or h with ⟨g_23, h⟩ | ⟨g_23, h⟩
      · refine itp g_23 ?_
        rcases ite_or h with ⟨g_24, h⟩ | ⟨g_24, h⟩
        · refine itp g_24 ?_
          rcases ite_or h with ⟨g_25, h⟩ | ⟨g_25, h⟩
          · refine itp g_25 ?_
            rcases ite_or h with ⟨g_26, h⟩ | ⟨g_26, h⟩
            · refine itp g_26 ?_
              obtain ⟨y_27, e_28, h⟩ := bind_or h
              refine bnd (erasurelaw35_awake.mono _ _  _ hk e_28) ?_
              exact h
            · refine itn g_26 ?_
              exact h
          · refine itn g_25 ?_
            exact h
        · refine itn g_24 ?_
          exact h
      · refine itn g_23 ?_
        rcases ite_or h with ⟨g_29, h⟩ | ⟨g_29, h⟩
        · refine itp g_29 ?_
          obtain ⟨g_30, h⟩ := ite_some h
          refine itp g_30 ?_
          obtain ⟨y_31, e_32, h⟩ := bind_or h
          refine bnd (erasureref26_CleanRow.mono _ _ _ _ hk e_32) ?_
          obtain ⟨y_33, e_34, h⟩ := bind_or h
          refine bnd (erasureref26_SameRow.mono _ _ _ _ _ hk e_34) ?_
          rcases ite_or h with ⟨g_35, h⟩ | ⟨g_35, h⟩
          · refine itp g_35 ?_
            obtain ⟨y_36, e_37, h⟩ := bind_or h
            refine bnd (erasureref35_Same.mono _ _ _ _ _ hk e_37) ?_
            rcases ite_or h with ⟨g_38, h⟩ | ⟨g_38, h⟩
            · refine itp g_38 ?_
              rcases ite_or h with ⟨g_39, h⟩ | ⟨g_39, h⟩
              · refine itp g_39 ?_
                obtain ⟨y_40, e_41, h⟩ := bind_or h
                refine bnd (erasurelaw35_awake.mono _ _  _ hk e_41) ?_
                exact h
              · refine itn g_39 ?_
                exact h
            · refine itn g_38 ?_
              exact h
          · refine itn g_35 ?_
            exact h
        · refine itn g_29 ?_
          exact h
theorem erasurelaw35_ReleaseKeys.spec {k : Nat} {keys0 : (List TValue)} {n1 : Int} {more2 : (List TValue)} {r : Bool} (h : erasurelaw35_ReleaseKeys k keys0 n1 more2 = some r) : Spec Try.prog 6 [.p (eL 3 cValue dValue keys0), .p (.int .i64 n1), .p (eL 3 cValue dValue more2)] (.p (.bool r)) [] :=
  spec_of mix Try.func6 (body := bodyOf Try.f6) (by kernel_rfl) (by kernel_rfl) (erasurelaw35_ReleaseKeys.run h)
end Go.Proofs.YtjhnpaenhdbhpaaV
set_option linter.unusedVariables false
set_option linter.unusedSimpArgs false
namespace Go.Proofs.YtjhnpaenhdbhpaaV
open Go Go.RowKit
def keyU (u : TPublished) : List TValue := u.f0.map clV
def fU : List TPublished → List TValue → Int × Bool
  | [], _ => (0, false)
  | u :: l, c => if keyU u = c then (u.f1, true) else fU l c
theorem Find_ev (l : List TPublished) (keys : List TValue) (hl : FinU l) : Ev (fun k => release_Find k l keys) (fU l (keys.map clV)) := by
  unfold release_Find
  refine (loop_down (P := fun i => Ev (fun k => release_Find.p1 k l keys (i : Int)) (fU (l.drop i) (keys.map clV))) l.length ?_ ?_ 0 (by omega))
  · refine Ev.succ ?_
    simp only [release_Find.p1, decide_eq_true_eq]
    rw [List.drop_length]
    exact Ev.ite_neg (by omega) (Ev.now _)
  · intro i hi ih
    refine Ev.succ ?_
    simp only [release_Find.p1, decide_eq_true_eq, beq_iff_eq, cmpR_zero]
    refine Ev.ite_pos (by omega) (Ev.ite_pos (by omega) (Ev.bind (value_CompareRows_ev _ _ (hl.2 _ (getD_mem dPublished hi))) ?_))
    rw [dU hi, wrn hi hl.1]
    unfold fU keyU
    by_cases h : cmpR (l.getD (i : Int).toNat dPublished).f0 keys = 0
    · rw [if_pos (cmpR_zero.1 h)]; exact Ev.ite_pos h (Ev.now _)
    · rw [if_neg (fun e => h (cmpR_zero.2 e))]; exact Ev.ite_neg h ih
def clnR (c : List TValue) : Prop := c.map clV = c
theorem clnR_key (u : TPublished) : clnR (keyU u) := by
  unfold clnR keyU
  rw [List.map_map]
  exact List.map_congr_left fun x _ => clV_ok (okV_cl x)
theorem cmpR_cln {a b : List TValue} (ha : clnR a) (hb : clnR b) : cmpR a b = 0 ↔ a = b := by rw [cmpR_zero, ha, hb]
def insR (c : List TValue) : List (List TValue) → List (List TValue)
  | [] => [c]
  | x :: l => if cmpR x c < 0 then x :: insR c l else c :: x :: l
def srtR (K : List (List TValue)) : List (List TValue) := K.foldr insR []
theorem insR_perm (c : List TValue) : ∀ l, (insR c l).Perm (c :: l)
  | [] => List.Perm.refl _
  | x :: l => by
    unfold insR
    split
    · exact ((insR_perm c l).cons x).trans (List.Perm.swap c x l)
    · exact List.Perm.refl _
theorem srtR_perm : ∀ K, (srtR K).Perm K
  | [] => List.Perm.refl _
  | c :: K => (insR_perm c _).trans ((srtR_perm K).cons c)
def LeRs (l : List (List TValue)) : Prop := l.Pairwise fun a b => ¬ cmpR b a < 0
theorem insR_le (c : List TValue) : ∀ l, LeRs l → LeRs (insR c l)
  | [], _ => List.pairwise_singleton _ _
  | x :: l, h => by
    have h1 := List.pairwise_cons.1 h
    have s := cmpR_swap x c
    unfold insR
    split
    · rename_i hc
      refine List.pairwise_cons.2 ⟨fun z hz => ?_, insR_le c l h1.2⟩
      rcases List.mem_cons.1 ((insR_perm c l).mem_iff.1 hz) with rfl | hz
      · omega
      · exact h1.1 z hz
    · rename_i hc
      refine List.pairwise_cons.2 ⟨fun z hz => ?_, h⟩
      rcases List.mem_cons.1 hz with rfl | hz
      · exact hc
      · exact cmpR_le_trans (h1.1 z hz) hc
theorem srtR_le : ∀ K, LeRs (srtR K)
  | [] => List.Pairwise.nil
  | c :: K => insR_le c _ (srtR_le K)
theorem cmpR_okS {xs : List (List TValue)} (h : ∀ x ∈ xs, clnR x) : CmpOK cmpR xs where
  irrefl x _ := by rw [cmpR_self]; omega
  trans x _ y _ z _ h1 h2 := cmpR_trans h1 h2
  ntrans x _ y _ z _ h1 h2 := cmpR_le_trans h1 h2
  anti x hx y hy h1 h2 := by
    have s := cmpR_swap x y
    exact (cmpR_cln (h x hx) (h y hy)).1 (by omega)
theorem sort_rows {xs : List (List TValue)} (h : ∀ x ∈ xs, clnR x) (hf : ∀ x ∈ xs, x.length ≤ 9223372036854775807) (hl : xs.length ≤ 1099511627776) : sortC (fun k x y => value_CompareRows k x y) xs = some (srtR xs) := by
  refine sortC_eq (fun x y k k' r hk h => value_CompareRows.mono k k' x y r hk h) ⟨⟨cmpR, fun x hx y _ => ?_, cmpR_okS h, srtR_perm xs, srtR_le xs, by omega⟩⟩
  obtain ⟨K, hK⟩ := value_CompareRows_ev x y (hf x hx)
  exact ⟨K, hK K (Nat.le_refl _)⟩
def dedR : Option (List TValue) → List (List TValue) → List (List TValue)
  | _, [] => []
  | p, c :: l => if p = some c then dedR (some c) l else c :: dedR (some c) l
theorem dedR_mem {x : List TValue} : ∀ (l : List (List TValue)) (p : Option (List TValue)), LeRs l → (∀ c ∈ l, clnR c) → (∀ q, p = some q → clnR q ∧ ∀ c ∈ l, ¬ cmpR c q < 0) → (x ∈ dedR p l ↔ x ∈ l ∧ p ≠ some x)
  | [], p, _, _, _ => by simp [dedR]
  | c :: l, p, h, hc, hp => by
    have h1 := List.pairwise_cons.1 h
    have cc := hc c (List.mem_cons_self ..)
    have ih := dedR_mem (x := x) l (some c) h1.2 (fun y hy => hc y (List.mem_cons_of_mem _ hy)) (fun q hq => by cases hq; exact ⟨cc, h1.1⟩)
    unfold dedR
    by_cases e : p = some c
    · rw [if_pos e, ih, e]
      simp only [List.mem_cons, ne_eq, Option.some.injEq]
      exact ⟨fun q => ⟨Or.inr q.1, q.2⟩, fun q => ⟨q.1.resolve_left (fun r => q.2 r.symm), q.2⟩⟩
    · rw [if_neg e, List.mem_cons, List.mem_cons, ih]
      simp only [ne_eq, Option.some.injEq]
      constructor
      · rintro (rfl | ⟨q1, q2⟩)
        · exact ⟨Or.inl rfl, e⟩
        · refine ⟨Or.inr q1, fun hpx => ?_⟩
          obtain ⟨g1, g2⟩ := hp x hpx
          have a1 := g2 c (List.mem_cons_self ..)
          have a2 := h1.1 x q1
          have s := cmpR_swap x c
          exact q2 ((cmpR_cln cc (hc x (List.mem_cons_of_mem _ q1))).1 (by omega))
      · rintro ⟨rfl | q, r⟩
        · exact Or.inl rfl
        · by_cases hx : c = x
          · exact Or.inl hx.symm
          · exact Or.inr ⟨q, hx⟩
theorem dedR_ord : ∀ (l : List (List TValue)) (p : Option (List TValue)), LeRs l → (∀ c ∈ l, clnR c) → (∀ q, p = some q → clnR q ∧ ∀ c ∈ l, ¬ cmpR c q < 0) → (dedR p l).Pairwise fun a b => cmpR a b < 0
  | [], p, _, _, _ => List.Pairwise.nil
  | c :: l, p, h, hc, hp => by
    have h1 := List.pairwise_cons.1 h
    have cc := hc c (List.mem_cons_self ..)
    have hq : ∀ q, some c = some q → clnR q ∧ ∀ z ∈ l, ¬ cmpR z q < 0 := fun q hq => by cases hq; exact ⟨cc, h1.1⟩
    have ih := dedR_ord l (some c) h1.2 (fun y hy => hc y (List.mem_cons_of_mem _ hy)) hq
    unfold dedR
    split
    · exact ih
    · refine List.pairwise_cons.2 ⟨fun x hx => ?_, ih⟩
      have hm := (dedR_mem l (some c) h1.2 (fun y hy => hc y (List.mem_cons_of_mem _ hy)) hq).1 hx
      have a := h1.1 x hm.1
      have s := cmpR_swap x c
      have ne : cmpR c x ≠ 0 := fun e => hm.2 (by rw [(cmpR_cln cc (hc x (List.mem_cons_of_mem _ hm.1))).1 e])
      omega
def gD (a b : List TPublished) (c : List TValue) : Option TPublished := if (fU a c).1 = (fU b c).1 then none else some ⟨c, IntKind.i64.wrap ((fU b c).1 - (fU a c).1)⟩
def diffS (a b : List TPublished) : List TPublished := (dedR none (srtR ((a ++ b).map keyU))).filterMap (gD a b)
def OrdU (l : List TPublished) : Prop := l.Pairwise fun x y => cmpR x.f0 y.f0 < 0
theorem gD_key {a b : List TPublished} {c : List TValue} {u : TPublished} (h : gD a b c = some u) : u.f0 = c := by
  unfold gD at h
  split at h
  · cases h
  · rw [← Option.some.inj h]
theorem srt_cln (a b : List TPublished) : ∀ c ∈ srtR ((a ++ b).map keyU), clnR c := by
  intro c hc
  obtain ⟨u, _, rfl⟩ := List.mem_map.1 ((srtR_perm _).mem_iff.1 hc)
  exact clnR_key u
theorem diffS_mem {a b : List TPublished} {u : TPublished} : u ∈ diffS a b ↔ ∃ c ∈ (a ++ b).map keyU, gD a b c = some u := by
  unfold diffS
  rw [List.mem_filterMap]
  constructor
  · rintro ⟨c, hc, hg⟩
    rw [dedR_mem _ none (srtR_le _) (srt_cln a b) (fun q hq => by cases hq)] at hc
    exact ⟨c, (srtR_perm _).mem_iff.1 hc.1, hg⟩
  · rintro ⟨c, hc, hg⟩
    refine ⟨c, ?_, hg⟩
    rw [dedR_mem _ none (srtR_le _) (srt_cln a b) (fun q hq => by cases hq)]
    exact ⟨(srtR_perm _).mem_iff.2 hc, by simp⟩
theorem diffS_ord (a b : List TPublished) : OrdU (diffS a b) := by
  unfold diffS OrdU
  refine List.Pairwise.filterMap _ (fun x y hxy u hu v hv => ?_) (dedR_ord _ none (srtR_le _) (srt_cln a b) (fun q hq => by cases hq))
  rw [gD_key hu, gD_key hv]
  exact hxy
def wfU (l : List TPublished) : Prop := ∀ u ∈ l, -9223372036854775808 ≤ u.f1 ∧ u.f1 ≤ 9223372036854775807
theorem fU_rng {l : List TPublished} (h : wfU l) (c : List TValue) : -9223372036854775808 ≤ (fU l c).1 ∧ (fU l c).1 ≤ 9223372036854775807 := by
  induction l with
  | nil => unfold fU; simp
  | cons u l ih =>
    unfold fU
    split
    · exact h u (List.mem_cons_self ..)
    · exact ih (fun x hx => h x (List.mem_cons_of_mem _ hx))
theorem wrap_ne {x y : Int} (hx : -9223372036854775808 ≤ x ∧ x ≤ 9223372036854775807) (hy : -9223372036854775808 ≤ y ∧ y ≤ 9223372036854775807) : IntKind.i64.wrap (y - x) = 0 ↔ x = y := by
  rw [IntKind.wrap_i64]; omega
def prevR (l : List (List TValue)) (i : Nat) : Option (List TValue) := if i = 0 then none else some (l.getD ((i - 1 : Nat) : Int).toNat [])
theorem dR {l : List (List TValue)} {i : Nat} (h : i < l.length) : l.drop i = l.getD (i : Int).toNat [] :: l.drop (i + 1) := drop_cons _ h
theorem prevR_succ (l : List (List TValue)) (i : Nat) : prevR l (i + 1) = some (l.getD (i : Int).toNat []) := by
  unfold prevR; rw [if_neg (by omega)]; rfl
theorem diff_p3 (a b : List TPublished) (ys : List (List TValue)) (fa : FinU a) (fb : FinU b) (wa : wfU a) (wb : wfU b) (hy : ∀ c ∈ ys, clnR c) (hf : ∀ c ∈ ys, c.length ≤ 9223372036854775807) (hl : ys.length ≤ 1000000) :
    ∀ i, i ≤ ys.length → ∀ out : List TPublished, out.length ≤ i → Ev (fun k => release_Differences.p3 k a b (i : Int) ys out) (out ++ (dedR (prevR ys i) (ys.drop i)).filterMap (gD a b)) := by
  refine loop_down (P := fun i => ∀ out : List TPublished, out.length ≤ i → Ev (fun k => release_Differences.p3 k a b (i : Int) ys out) (out ++ (dedR (prevR ys i) (ys.drop i)).filterMap (gD a b))) ys.length ?_ ?_
  · intro out _
    refine Ev.succ ?_
    simp only [release_Differences.p3, decide_eq_true_eq]
    rw [List.drop_length]
    exact Ev.ite_neg (by omega) (Ev.done (by simp [dedR]))
  · intro i hi ih out ho
    refine Ev.succ ?_
    simp only [release_Differences.p3, decide_eq_true_eq, beq_iff_eq, bne_iff_ne]
    have ca := hy _ (getD_mem ([] : List TValue) hi)
    have tail : prevR ys i ≠ some (ys.getD (i : Int).toNat []) → Ev (fun k => (release_Find k a (ys.getD (i : Int).toNat ([] : List TValue))).bind fun y_20 => ((release_Find k b (ys.getD (i : Int).toNat ([] : List TValue))).bind fun y_22 => (if (IntKind.i64.wrap (y_22.1 - y_20.1)) ≠ 0 then (if (out).length + ([(TPublished.mk (ys.getD (i : Int).toNat ([] : List TValue)) (IntKind.i64.wrap (y_22.1 - y_20.1)))]).length ≤ maxLen ∧ ((out).length + ([(TPublished.mk (ys.getD (i : Int).toNat ([] : List TValue)) (IntKind.i64.wrap (y_22.1 - y_20.1)))]).length) * 32 ≤ 140737488355328 then (release_Differences.p3 k a b (IntKind.i64.wrap ((i : Int) + 1)) ys (out ++ ([(TPublished.mk (ys.getD (i : Int).toNat ([] : List TValue)) (IntKind.i64.wrap (y_22.1 - y_20.1)))]))) else none) else (release_Differences.p3 k a b (IntKind.i64.wrap ((i : Int) + 1)) ys out)))) (out ++ (dedR (prevR ys i) (ys.drop i)).filterMap (gD a b)) := by
      intro hne
      rw [dR hi, wrn hi (by omega)]
      unfold dedR
      rw [if_neg hne, List.filterMap_cons]
      have e1 := Find_ev a (ys.getD (i : Int).toNat []) fa
      have e2 := Find_ev b (ys.getD (i : Int).toNat []) fb
      rw [ca] at e1 e2
      refine Ev.bind e1 (Ev.bind e2 ?_)
      have hw := wrap_ne (fU_rng wa (ys.getD (i : Int).toNat [])) (fU_rng wb (ys.getD (i : Int).toNat []))
      rw [prevR_succ] at ih
      by_cases h : (fU a (ys.getD (i : Int).toNat [])).1 = (fU b (ys.getD (i : Int).toNat [])).1
      · refine Ev.ite_neg (fun q => q (hw.2 h)) ((ih out (by omega)).to ?_)
        unfold gD
        rw [if_pos h]
      · refine Ev.ite_pos (fun q => h (hw.1 q)) (Ev.ite_pos (by simp only [maxLen, List.length_singleton]; omega) ((ih _ (by simp; omega)).to ?_))
        unfold gD
        rw [if_neg h, List.append_assoc]; rfl
    refine Ev.ite_pos (by omega) ?_
    by_cases h0 : i = 0
    · subst h0
      exact Ev.ite_neg (by simp) (Ev.ite_pos (by omega) (tail (by simp [prevR])))
    · have e1 : IntKind.i64.wrap ((i : Int) - 1) = ((i - 1 : Nat) : Int) := by rw [wr (by omega)]; omega
      have hi1 : i - 1 < ys.length := by omega
      rw [e1]
      refine Ev.ite_pos (by omega) (Ev.ite_pos (by omega) (Ev.ite_pos (by omega) (Ev.bind (value_CompareRows_ev _ _ (hf _ (getD_mem [] hi1))) ?_)))
      have hp : prevR ys i = some (ys.getD ((i - 1 : Nat) : Int).toNat []) := by unfold prevR; rw [if_neg h0]
      have hz := cmpR_cln (hy _ (getD_mem ([] : List TValue) hi1)) ca
      by_cases hc : cmpR (ys.getD ((i - 1 : Nat) : Int).toNat []) (ys.getD (i : Int).toNat []) = 0
      · refine Ev.ite_pos hc ?_
        rw [dR hi, wrn hi (by omega)]
        unfold dedR
        rw [if_pos (by rw [hp, hz.1 hc]), ← prevR_succ]
        exact ih out (by omega)
      · exact Ev.ite_neg hc (tail (fun q => hc (hz.2 (by rw [hp] at q; exact Option.some.inj q))))
theorem Differences_ev (a b : List TPublished) (fa : a.length ≤ 100000 ∧ ∀ u ∈ a, u.f0.length ≤ 1000000) (fb : b.length ≤ 100000 ∧ ∀ u ∈ b, u.f0.length ≤ 1000000) (wa : wfU a) (wb : wfU b) : Ev (fun k => release_Differences k a b) (diffS a b) := by
  have Fa : FinU a := ⟨by omega, fun u hu => by have := fa.2 u hu; omega⟩
  have Fb : FinU b := ⟨by omega, fun u hu => by have := fb.2 u hu; omega⟩
  unfold release_Differences
  have klen : ((a ++ b).map keyU).length = a.length + b.length := by simp
  have kall : ∀ c ∈ (a ++ b).map keyU, clnR c ∧ c.length ≤ 1000000 := by
    intro c hc
    obtain ⟨u, hu, rfl⟩ := List.mem_map.1 hc
    refine ⟨clnR_key u, ?_⟩
    unfold keyU
    rw [List.length_map]
    rcases List.mem_append.1 hu with h | h
    · exact fa.2 u h
    · exact fb.2 u h
  have sl : (srtR ((a ++ b).map keyU)).length = a.length + b.length := by rw [(srtR_perm _).length_eq, klen]
  have p2 : ∀ i, i ≤ b.length → ∀ ks, ks ++ (b.drop i).map keyU = (a ++ b).map keyU → Ev (fun k => release_Differences.p2 k a b (i : Int) ks) (diffS a b) := by
    refine loop_down (P := fun i => ∀ ks, ks ++ (b.drop i).map keyU = (a ++ b).map keyU → Ev (fun k => release_Differences.p2 k a b (i : Int) ks) (diffS a b)) b.length ?_ ?_
    · intro ks h
      rw [List.drop_length, List.map_nil, List.append_nil] at h
      subst h
      refine Ev.succ ?_
      simp only [release_Differences.p2, decide_eq_true_eq]
      refine Ev.ite_neg (by omega) ?_
      rw [sort_rows (fun x hx => (kall x hx).1) (fun x hx => by have := (kall x hx).2; omega) (by omega)]
      have h3 := diff_p3 a b (srtR ((a ++ b).map keyU)) Fa Fb wa wb (srt_cln a b) (fun c hc => by have := (kall c ((srtR_perm _).mem_iff.1 hc)).2; omega) (by omega) 0 (by omega) [] (by simp)
      exact h3.to (by rw [List.drop_zero, List.nil_append]; rfl)
    · intro i hi ih ks h
      refine Ev.succ ?_
      simp only [release_Differences.p2, decide_eq_true_eq]
      have hx := fb.2 _ (getD_mem dPublished hi)
      rw [dU hi, List.map_cons] at h
      have hl := congrArg List.length h
      rw [klen] at hl
      simp only [List.length_append, List.length_cons] at hl
      refine Ev.ite_pos (by omega) (Ev.ite_pos (by omega) (Ev.bind (cleaned_ev _ (by omega)) (Ev.ite_pos (by simp only [maxLen, List.length_singleton]; omega) ?_)))
      rw [wrn hi (by omega)]
      exact ih _ (by rw [List.append_assoc]; exact h)
  have p1 : ∀ i, i ≤ a.length → ∀ ks, ks ++ (a.drop i).map keyU = a.map keyU → Ev (fun k => release_Differences.p1 k a b (i : Int) ks) (diffS a b) := by
    refine loop_down (P := fun i => ∀ ks, ks ++ (a.drop i).map keyU = a.map keyU → Ev (fun k => release_Differences.p1 k a b (i : Int) ks) (diffS a b)) a.length ?_ ?_
    · intro ks h
      rw [List.drop_length, List.map_nil, List.append_nil] at h
      refine Ev.succ ?_
      simp only [release_Differences.p1, decide_eq_true_eq]
      exact Ev.ite_neg (by omega) (p2 0 (by omega) ks (by rw [h, List.drop_zero, List.map_append]))
    · intro i hi ih ks h
      refine Ev.succ ?_
      simp only [release_Differences.p1, decide_eq_true_eq]
      have hx := fa.2 _ (getD_mem dPublished hi)
      rw [dU hi, List.map_cons] at h
      have hl := congrArg List.length h
      simp only [List.length_append, List.length_cons, List.length_map] at hl
      refine Ev.ite_pos (by omega) (Ev.ite_pos (by omega) (Ev.bind (cleaned_ev _ (by omega)) (Ev.ite_pos (by simp only [maxLen, List.length_singleton]; omega) ?_)))
      rw [wrn hi (by omega)]
      exact ih _ (by rw [List.append_assoc]; exact h)
  exact p1 0 (by omega) [] (by rw [List.drop_zero, List.nil_append])
end Go.Proofs.YtjhnpaenhdbhpaaV
set_option linter.unusedVariables false
set_option linter.unusedSimpArgs false
namespace Go.Proofs.YtjhnpaenhdbhpaaV
open Go Go.RowKit
def EvU {ρ α : Type} (c : ρ → Prop) (g : ρ → Nat → Option α) (r : α) : Prop := ∃ K, ∀ x, c x → ∀ k, K ≤ k → g x k = some r
theorem EvU.of {ρ α : Type} {c : ρ → Prop} {g : Nat → Option α} {r : α} (h : Ev g r) : EvU c (fun _ k => g k) r := by obtain ⟨K, h⟩ := h; exact ⟨K, fun _ _ k hk => h k hk⟩
theorem EvU.now {ρ α : Type} {c : ρ → Prop} (r : α) : EvU c (fun _ _ => some r) r := ⟨0, fun _ _ _ _ => rfl⟩
theorem EvU.done {ρ α : Type} {c : ρ → Prop} {a r : α} (h : a = r) : EvU c (fun _ _ => some a) r := by subst h; exact EvU.now _
theorem EvU.bind {ρ α β : Type} {c : ρ → Prop} {f : Nat → Option α} {g : ρ → Nat → α → Option β} {a : α} {r : β} (h : Ev f a) (h' : EvU c (fun x k => g x k a) r) : EvU c (fun x k => (f k).bind (g x k)) r := by
  obtain ⟨K, h⟩ := h; obtain ⟨L, h'⟩ := h'
  exact ⟨max K L, fun x hx k hk => by show (f k).bind (g x k) = some r; rw [h k (by omega)]; exact h' x hx k (by omega)⟩
theorem EvU.succ {ρ α : Type} {c : ρ → Prop} {g : ρ → Nat → Option α} {r : α} (h : EvU c (fun x k => g x (k + 1)) r) : EvU c g r := by
  obtain ⟨K, h⟩ := h
  exact ⟨K + 1, fun x hx k hk => by obtain ⟨m, rfl⟩ : ∃ m, k = m + 1 := ⟨k - 1, by omega⟩; exact h x hx m (by omega)⟩
theorem EvU.congr {ρ α : Type} {c : ρ → Prop} {f g : ρ → Nat → Option α} {r : α} (h : ∀ x k, g x k = f x k) (k : EvU c f r) : EvU c g r := by rw [show g = f from funext fun x => funext (h x)]; exact k
theorem EvU.ite_pos {ρ α : Type} {q : ρ → Prop} {g f : ρ → Nat → Option α} {r : α} {c : Prop} [Decidable c] (h : c) (k : EvU q g r) : EvU q (fun x n => if c then g x n else f x n) r := EvU.congr (fun x n => if_pos h) k
theorem EvU.ite_neg {ρ α : Type} {q : ρ → Prop} {g f : ρ → Nat → Option α} {r : α} {c : Prop} [Decidable c] (h : ¬ c) (k : EvU q f r) : EvU q (fun x n => if c then g x n else f x n) r := EvU.congr (fun x n => if_neg h) k
theorem EvU.to {ρ α : Type} {q : ρ → Prop} {g : ρ → Nat → Option α} {r s : α} (h : EvU q g r) (e : r = s) : EvU q g s := by subst e; exact h
end Go.Proofs.YtjhnpaenhdbhpaaV
set_option linter.unusedVariables false
set_option linter.unusedSimpArgs false
namespace Go.Proofs.YtjhnpaenhdbhpaaV
open Go Go.RowKit
theorem aw35 : Ev (fun k => (erasurelaw35_awake k).bind fun y => some y) true := Ev.bind awake_ev (Ev.now _)
end Go.Proofs.YtjhnpaenhdbhpaaV
set_option linter.unusedVariables false
set_option linter.unusedSimpArgs false
namespace Go.Proofs.YtjhnpaenhdbhpaaV
open Go Go.RowKit
def pl (T : Int) : Nat → List Int → List TPublished
  | _, [] => []
  | i, c :: C => if i < 40 then (if T ≤ c % 1024 then [pubG T i (c % 1024)] else []) ++ pl T (i + 1) C else []
theorem pl_eq {T : Int} (hT : 1 ≤ T) : ∀ (C : List Int) (i : Nat), (grpS i C).filterMap (pubE T 1) = pl T i C
  | [], _ => rfl
  | c :: C, i => by
    unfold grpS pl
    by_cases h : i < 40
    · rw [if_pos h, if_pos h, List.filterMap_append, pl_eq hT C (i + 1)]
      congr 1
      have hm : 0 ≤ c % 1024 ∧ c % 1024 < 1024 := by omega
      by_cases hc : c % 1024 > 0
      · rw [if_pos hc, List.filterMap_cons, List.filterMap_nil, pubE_rowG h ⟨hc, hm.2⟩]
        by_cases ht : T ≤ c % 1024
        · rw [if_pos ht, if_pos ht]
        · rw [if_neg ht, if_neg ht]
      · rw [if_neg hc, if_neg (by omega)]; rfl
    · rw [if_neg h, if_neg h]; rfl
theorem pubS_pl {T : Int} (hT : 1 ≤ T) (C : List Int) : pubS T 1 (grpS 0 C) = pl T 0 C := by rw [pubS_grp hT (grpS_is C 0), pl_eq hT]
theorem pl_mem {T : Int} : ∀ (C : List Int) (i : Nat) (u : TPublished), u ∈ pl T i C → ∃ (a : Nat) (n : Int), i ≤ a ∧ a < 40 ∧ T ≤ n ∧ 0 ≤ n ∧ n < 1024 ∧ u = pubG T a n
  | [], _, u, h => by cases h
  | c :: C, i, u, h => by
    unfold pl at h
    split at h
    · rename_i hi
      rcases List.mem_append.1 h with h | h
      · split at h
        · rename_i ht
          rw [List.mem_singleton] at h
          exact ⟨i, c % 1024, Nat.le_refl _, hi, ht, by omega, by omega, h⟩
        · cases h
      · obtain ⟨a, n, h1, h2⟩ := pl_mem C (i + 1) u h
        exact ⟨a, n, by omega, h2⟩
    · cases h
theorem intV_inj {a b : Int} (h : intV a = intV b) : a = b := by unfold intV at h; injection h
theorem key_pubG {T : Int} {a : Nat} {n : Int} (ha : a < 40) : keyU (pubG T a n) = [intV a] := by
  unfold keyU pubG
  show [clV (intV a)] = [intV a]
  rw [clV_ok (okV_int (by omega))]
theorem tmod_facts {T n : Int} (hT : 1 ≤ T) (h : 0 ≤ n) : n - n.tmod T = T * (n / T) := by
  rw [Int.tmod_eq_emod_of_nonneg h]
  have := Int.mul_ediv_add_emod n T
  omega
theorem pl_val {T : Int} (hT : 1 ≤ T) {C : List Int} {i : Nat} {u : TPublished} (h : u ∈ pl T i C) : T ∣ u.f1 ∧ 1 ≤ u.f1 ∧ u.f1 ≤ 1023 := by
  obtain ⟨a, n, _, h2, h3, h4, h5, rfl⟩ := pl_mem C i u h
  show T ∣ n - n.tmod T ∧ 1 ≤ n - n.tmod T ∧ n - n.tmod T ≤ 1023
  have hr := tmod_rng hT h3
  exact ⟨by rw [tmod_facts hT h4]; exact Int.dvd_mul_right _ _, by omega, by omega⟩
theorem pl_len {T : Int} : ∀ (C : List Int) (i : Nat), (pl T i C).length + i ≤ 40 ∨ pl T i C = []
  | [], _ => .inr rfl
  | c :: C, i => by
    unfold pl
    split
    · rename_i hi
      rcases pl_len (T := T) C (i + 1) with h | h
      · left; split <;> simp <;> omega
      · rw [h]; left; split <;> simp <;> omega
    · exact .inr rfl
theorem pl_len40 {T : Int} (C : List Int) : (pl T 0 C).length ≤ 40 := by
  rcases pl_len (T := T) C 0 with h | h
  · omega
  · rw [h]; simp
theorem pl_fin {T : Int} (C : List Int) : (pl T 0 C).length ≤ 100000 ∧ ∀ u ∈ pl T 0 C, u.f0.length ≤ 1000000 := by
  refine ⟨by have := pl_len40 (T := T) C; omega, fun u hu => ?_⟩
  obtain ⟨a, n, _, h2, h3, h4, h5, rfl⟩ := pl_mem C 0 u hu
  show [intV a].length ≤ _
  simp
theorem pl_wf {T : Int} (hT : 1 ≤ T) (C : List Int) : wfU (pl T 0 C) := fun u hu => by have := pl_val hT hu; omega
theorem fU_of {Q : Int → Prop} (h0 : Q 0) {l : List TPublished} (h : ∀ u ∈ l, Q u.f1) (c : List TValue) : Q (fU l c).1 := by
  induction l with
  | nil => exact h0
  | cons u l ih =>
    unfold fU
    split
    · exact h u (List.mem_cons_self ..)
    · exact ih (fun x hx => h x (List.mem_cons_of_mem _ hx))
theorem diff_elem {T : Int} (hT : 1 ≤ T) {A B : List Int} {u : TPublished} (hu : u ∈ diffS (pl T 0 A) (pl T 0 B)) :
    u.f0.map clV = u.f0 ∧ u.f1 = (fU (pl T 0 B) u.f0).1 - (fU (pl T 0 A) u.f0).1 ∧ u.f1 ≠ 0 ∧ T ∣ u.f1 ∧ -1023 ≤ u.f1 ∧ u.f1 ≤ 1023 ∧ 0 ≤ (fU (pl T 0 B) u.f0).1 ∧ (fU (pl T 0 B) u.f0).1 ≤ 1023 := by
  obtain ⟨c, hc, hg⟩ := diffS_mem.1 hu
  have h0 := gD_key hg
  obtain ⟨v, _, hv⟩ := List.mem_map.1 hc
  have qA := fU_of (Q := fun n => T ∣ n ∧ 0 ≤ n ∧ n ≤ 1023) ⟨Int.dvd_zero _, by omega, by omega⟩ (l := pl T 0 A) (fun u hu => by have := pl_val hT hu; exact ⟨this.1, by omega, by omega⟩) c
  have qB := fU_of (Q := fun n => T ∣ n ∧ 0 ≤ n ∧ n ≤ 1023) ⟨Int.dvd_zero _, by omega, by omega⟩ (l := pl T 0 B) (fun u hu => by have := pl_val hT hu; exact ⟨this.1, by omega, by omega⟩) c
  unfold gD at hg
  split at hg
  · cases hg
  · rename_i hne
    have e := Option.some.inj hg
    rw [h0]
    have e1 : u.f1 = (fU (pl T 0 B) c).1 - (fU (pl T 0 A) c).1 := by rw [← e]; exact wr (by omega)
    refine ⟨by rw [← hv]; exact clnR_key v, e1, by omega, by rw [e1]; exact Int.dvd_sub qB.1 qA.1, by omega, by omega, by omega, by omega⟩
theorem fU_pl {T : Int} (hT : 1 ≤ T) {a : Nat} (ha : a < 40) : ∀ (C : List Int) (i : Nat), (fU (pl T i C) [intV a]).1 = if i ≤ a ∧ T ≤ C.getD (a - i) 0 % 1024 then C.getD (a - i) 0 % 1024 - (C.getD (a - i) 0 % 1024).tmod T else 0
  | [], i => by
    rw [if_neg]
    · rfl
    · intro h
      have := h.2
      simp at this
      omega
  | c :: C, i => by
    unfold pl
    by_cases hi : i < 40
    · rw [if_pos hi]
      have ih := fU_pl hT ha C (i + 1)
      have hk := key_pubG (T := T) (n := c % 1024) hi
      by_cases e : i = a
      · subst e
        rw [Nat.sub_self, List.getD_cons_zero]
        by_cases ht : T ≤ c % 1024
        · rw [if_pos ht, if_pos ⟨Nat.le_refl _, ht⟩]
          show (fU (pubG T i (c % 1024) :: pl T (i + 1) C) [intV i]).1 = _
          unfold fU
          rw [if_pos hk]; rfl
        · rw [if_neg ht, if_neg (fun h => ht h.2), List.nil_append, ih, if_neg (by omega)]
      · have hne : keyU (pubG T i (c % 1024)) ≠ [intV a] := by
          rw [hk]
          intro h
          have := intV_inj (List.cons.inj h).1
          omega
        have h1 : (fU ((if T ≤ c % 1024 then [pubG T i (c % 1024)] else []) ++ pl T (i + 1) C) [intV a]).1 = (fU (pl T (i + 1) C) [intV a]).1 := by
          split
          · show (fU (pubG T i (c % 1024) :: pl T (i + 1) C) [intV a]).1 = _
            rw [fU, if_neg hne]
          · rfl
        rw [h1, ih]
        by_cases hlt : i < a
        · have : a - i = (a - (i + 1)) + 1 := by omega
          rw [this, List.getD_cons_succ]
          have e1 : i + 1 ≤ a := by omega
          have e2 : i ≤ a := by omega
          simp only [e1, e2, true_and]
        · rw [if_neg (by omega), if_neg (by omega)]
    · rw [if_neg hi, if_neg (by omega)]; rfl
theorem step_val {T m : Int} (h1 : 1 ≤ T) (h2 : T ≤ 16) (hm : 0 ≤ m) : ((if T ≤ m + 1 then m + 1 - (m + 1) % T else 0) = if T ≤ m then m - m % T else 0) ∨ (if T ≤ m + 1 then m + 1 - (m + 1) % T else 0) - (if T ≤ m then m - m % T else 0) = T := by
  have : T = 1 ∨ T = 2 ∨ T = 3 ∨ T = 4 ∨ T = 5 ∨ T = 6 ∨ T = 7 ∨ T = 8 ∨ T = 9 ∨ T = 10 ∨ T = 11 ∨ T = 12 ∨ T = 13 ∨ T = 14 ∨ T = 15 ∨ T = 16 := by omega
  rcases this with rfl | rfl | rfl | rfl | rfl | rfl | rfl | rfl | rfl | rfl | rfl | rfl | rfl | rfl | rfl | rfl <;> (split <;> split <;> omega)
theorem idx_of (v : Int) (n : Nat) (h : 0 < n) (hn : n ≤ 1000) : IntKind.u64.wrap (n : Int) ≠ 0 ∧ 0 ≤ IntKind.i64.wrap ((IntKind.u64.wrap v).tmod (IntKind.u64.wrap (n : Int))) ∧ IntKind.i64.wrap ((IntKind.u64.wrap v).tmod (IntKind.u64.wrap (n : Int))) < (n : Int) := by
  have e : IntKind.u64.wrap (n : Int) = (n : Int) := by simp [IntKind.wrap, IntKind.bits, IntKind.signed]; omega
  have hv : 0 ≤ IntKind.u64.wrap v := by simp [IntKind.wrap, IntKind.bits, IntKind.signed]; omega
  rw [e]
  have h1 := Int.tmod_nonneg (n : Int) hv
  have h2 := Int.tmod_lt_of_pos (IntKind.u64.wrap v) (show (0 : Int) < n by omega)
  rw [wr (by omega)]
  exact ⟨by omega, h1, h2⟩
theorem getD_setI (O : List Int) (i j : Nat) (o : Int) (hi : i < O.length) : (O.set i o).getD j 0 = if j = i then o else O.getD j 0 := by
  rw [List.getD_eq_getElem?_getD, List.getD_eq_getElem?_getD, List.getElem?_set]
  by_cases h : i = j
  · subst h; simp [hi]
  · rw [if_neg h, if_neg (Ne.symm h)]
theorem single_diff {T : Int} (hT : 1 ≤ T) (hT' : T ≤ 16) (C : List Int) (k : Nat) (hk : k < C.length) (hl : C.length ≤ 40) (m : Int) (hm : 0 ≤ m ∧ m < 512) :
    diffS (pl T 0 (C.set k m)) (pl T 0 (C.set k (m + 1))) = [] ∨ diffS (pl T 0 (C.set k m)) (pl T 0 (C.set k (m + 1))) = [⟨[intV k], T⟩] := by
  have one : ∀ u ∈ diffS (pl T 0 (C.set k m)) (pl T 0 (C.set k (m + 1))), u = ⟨[intV k], T⟩ := by
    intro u hu
    obtain ⟨g0, g1, g2, g3, g4⟩ := diff_elem hT hu
    obtain ⟨c, hc, hg⟩ := diffS_mem.1 hu
    have hf := gD_key hg
    obtain ⟨v, hv, hvc⟩ := List.mem_map.1 hc
    obtain ⟨a, ha, hca⟩ : ∃ a : Nat, a < 40 ∧ c = [intV a] := by
      rcases List.mem_append.1 hv with h | h
      · obtain ⟨a, n, _, h2, _, _, _, rfl⟩ := pl_mem _ 0 v h
        exact ⟨a, h2, by rw [← hvc, key_pubG h2]⟩
      · obtain ⟨a, n, _, h2, _, _, _, rfl⟩ := pl_mem _ 0 v h
        exact ⟨a, h2, by rw [← hvc, key_pubG h2]⟩
    rw [hf, hca, fU_pl hT ha, fU_pl hT ha, Nat.sub_zero, getD_setI _ _ _ _ hk, getD_setI _ _ _ _ hk] at g1
    by_cases e : a = k
    · subst e
      simp only [if_true, Nat.zero_le, true_and] at g1
      rw [show m % 1024 = m from by omega, show (m + 1) % 1024 = m + 1 from by omega, Int.tmod_eq_emod_of_nonneg hm.1, Int.tmod_eq_emod_of_nonneg (show 0 ≤ m + 1 by omega)] at g1
      refine U_ext (by rw [hf, hca]) ?_
      show u.f1 = T
      rcases step_val hT hT' hm.1 with h | h
      · omega
      · omega
    · rw [if_neg e, if_neg e] at g1
      omega
  have ho := diffS_ord (pl T 0 (C.set k m)) (pl T 0 (C.set k (m + 1)))
  generalize diffS (pl T 0 (C.set k m)) (pl T 0 (C.set k (m + 1))) = d at one ho
  cases d with
  | nil => exact Or.inl rfl
  | cons u d =>
    have hu := one u (List.mem_cons_self ..)
    cases d with
    | nil => rw [hu]; exact Or.inr rfl
    | cons v d =>
      have hv := one v (List.mem_cons_of_mem _ (List.mem_cons_self ..))
      have := (List.pairwise_cons.1 ho).1 v (List.mem_cons_self ..)
      rw [hu, hv, cmpR_self] at this
      omega
theorem ReleaseSingle_std (x0 : Int) (x1 : (List Int)) (x2 : Int) (h0 : (Lit.int .i64 x0).wf = true) (h1 : (x1.length ≤ maxLen ∧ ∀ e0 ∈ x1, (Lit.int .i64 e0).wf = true)) (h2 : (Lit.int .i64 x2).wf = true) : ∃ k, erasurelaw35_ReleaseSingle k x0 x1 x2 = some true := by
  refine Ev.some (g := fun k => erasurelaw35_ReleaseSingle k x0 x1 x2) ?_
  unfold erasurelaw35_ReleaseSingle
  simp only [limit_eq, Option.bind_some, List.nil_append, and511, eqV_iff, decide_eq_true_eq, beq_iff_eq]
  have hT : (1 : Int) ≤ 1 + x0 % 16 := by omega
  have hT' : 1 + x0 % 16 ≤ (16 : Int) := by omega
  generalize 1 + x0 % 16 = T at hT hT'
  by_cases c0 : (x1.length : Int) = 0
  · exact Ev.ite_pos c0 aw35
  refine Ev.ite_neg c0 ?_
  by_cases c1 : (x1.length : Int) > 40
  · exact Ev.ite_pos c1 aw35
  refine Ev.ite_neg c1 ?_
  obtain ⟨i0, i1, i2⟩ := idx_of x2 x1.length (by omega) (by omega)
  generalize IntKind.i64.wrap ((IntKind.u64.wrap x2).tmod (IntKind.u64.wrap (x1.length : Int))) = q at i1 i2
  obtain ⟨k, rfl⟩ : ∃ k : Nat, q = (k : Int) := ⟨q.toNat, by omega⟩
  have hk : k < x1.length := by omega
  refine Ev.ite_pos i0 (Ev.ite_pos (by simp only [maxLen, List.length_nil]; omega) (Ev.ite_pos ⟨i1, i2⟩ (Ev.ite_pos ⟨i1, i2⟩ ?_)))
  have hm : 0 ≤ x1.getD (k : Int).toNat 0 % 512 ∧ x1.getD (k : Int).toNat 0 % 512 < 512 := by omega
  generalize x1.getD (k : Int).toNat 0 % 512 = m at hm
  rw [wr (n := m + 1) (by omega), Int.toNat_natCast]
  have g : ∀ C : List Int, C.length ≤ 40 → Ev (fun k => erasurelaw35_Groups k C) (grpS 0 C) := fun C hC => Groups_ev C (by omega)
  have p : ∀ C : List Int, Ev (fun k => release_Publish k ⟨⟨#[]⟩, ⟨#[]⟩, T⟩ 1 (grpS 0 C)) (pl T 0 C) := fun C => (Publish_ev ⟨⟨#[]⟩, ⟨#[]⟩, T⟩ 1 _ (grpS_is C 0).fin).to (pubS_pl hT C)
  refine Ev.bind (g _ (by rw [List.length_set]; omega)) (Ev.bind (p _) (Ev.bind (g _ (by rw [List.length_set]; omega)) (Ev.bind (p _) (Ev.bind (Differences_ev _ _ (pl_fin _) (pl_fin _) (pl_wf hT _) (pl_wf hT _)) ?_))))
  rcases single_diff hT hT' x1 k hk (by omega) m hm with h | h
  · rw [h]
    exact Ev.ite_pos rfl aw35
  · rw [h]
    simp only [ref01_Int_eq _ (show -4294967296 ≤ (k : Int) ∧ (k : Int) ≤ 4294967296 by omega), Option.bind_some]
    exact Ev.ite_neg (by simp) (Ev.ite_pos rfl (Ev.ite_pos (by simp) (Ev.ite_pos rfl (Ev.ite_pos (by simp) (Ev.ite_pos rfl (Ev.ite_pos rfl aw35))))))
end Go.Proofs.YtjhnpaenhdbhpaaV
set_option linter.unusedVariables false
set_option linter.unusedSimpArgs false
set_option linter.constructorNameAsVariable false
namespace Go.Proofs.YtjhnpaenhdbhpaaV
open Go Go.RowKit
def RepL (F : Nat → Prop) (w : World) : List AV → List Value → Prop
  | [], [] => True
  | a :: l, v :: m => Rep F w a v ∧ RepL F w l m
  | _, _ => False
theorem RepL.len {F : Nat → Prop} {w : World} : ∀ {l : List AV} {m : List Value}, RepL F w l m → l.length = m.length
  | [], [], _ => rfl
  | _ :: _, _ :: _, h => by simp [RepL.len h.2]
  | [], _ :: _, h => h.elim
  | _ :: _, [], h => h.elim
theorem RepL.get {F : Nat → Prop} {w : World} : ∀ {l : List AV} {m : List Value}, RepL F w l m → ∀ (i : Nat) (v : Value), m[i]? = some v → Rep F w (l.getD i .u) v
  | [], [], _, i, v, h => by simp at h
  | a :: l, u :: m, h, i, v, hv => by
    cases i with
    | zero =>
      simp only [List.getElem?_cons_zero, Option.some.injEq] at hv
      subst hv
      exact h.1
    | succ i => simpa using RepL.get h.2 i v (by simpa using hv)
  | [], _ :: _, h, _, _, _ => h.elim
  | _ :: _, [], h, _, _, _ => h.elim
theorem RepL.fv {F : Nat → Prop} {w : World} {κ : Nat → Value} {hp : List Ob} : ∀ {l : List AV} {m : List Value}, RepL F w l m → RelVs ⟨F, w, κ, hp⟩ (l.map .p) m
  | [], [], _ => by simp [RelVs]
  | a :: l, v :: m, h => by simp only [List.map_cons, RelVs]; exact ⟨v, m, rfl, by simp only [RelV]; exact h.1, RepL.fv h.2⟩
  | [], _ :: _, h => h.elim
  | _ :: _, [], h => h.elim
abbrev oldF (W : World) : Nat → Prop := fun b => b < W.heap.size
structure Op1 {α : Type} (P : Program) (t : TypeId) (c : α → List AV) (B : α → Prop) : Prop where mk ::
  out : ∀ {H : Type} (enc : TypeId × Value → H) (W : World) (fuel : Nat) (cs : List Value) (y : DataW H × List MemPlace), DataW.trod enc P W 0 (fun _ => true) true fuel t cs = some y → ∃ x, RepL (oldF W) W (c x) cs ∧ B x
theorem op1_int {P : Program} {t : TypeId} {k : IntKind} (ht : P.underlying t = some (.int k)) : Op1 P t (cI k) (fun n => (Lit.int k n).wf = true) := by
  constructor
  intro H enc W fuel cs y h
  obtain ⟨n, rfl, _, hw⟩ := DataW.trod_int ht h
  exact ⟨n, ⟨rfl, trivial⟩, hw⟩
theorem cell_add {W : World} {a : Addr} {n : Nat} {u : Value} (h : W.cell? (a.add n) = some u) : W.cell? ⟨a.block, a.off + n, none⟩ = some u := by
  unfold Addr.add at h
  split at h
  · rename_i hn
    subst hn
    have hs : a.spot = none := by
      unfold World.cell? at h
      split at h
      · split at h
        · cases h
        · rename_i hs; cases hq : a.spot with
          | none => rfl
          | some x => simp [hq] at hs
      · cases h
    cases a
    simp only at hs
    subst hs
    exact h
  · exact h
theorem spot_none {W : World} {a : Addr} {u : Value} (h : W.cell? a = some u) : a = ⟨a.block, a.off, none⟩ := by
  have hs : a.spot = none := by
    unfold World.cell? at h
    split at h
    · split at h
      · cases h
      · rename_i hs; cases hq : a.spot with
        | none => rfl
        | some x => simp [hq] at hs
    · cases h
  cases a
  simp only at hs
  subst hs
  rfl
theorem op1_slice {α : Type} {P : Program} {t e : TypeId} {sz : Nat} {c : α → List AV} (d : α) {B : α → Prop} (ht : P.underlying t = some (.slice e)) (hd : Op1 P e c B) (hc : P.cellsOf e = sz) (hs : ∀ x, (c x).length = sz) (h0 : 0 < sz) : Op1 P t (cL sz c d) (fun xs => xs.length ≤ maxLen ∧ ∀ x ∈ xs, B x) := by
  constructor
  intro H enc W fuel cs y h
  rcases DataW.trod_slice ht h with ⟨rfl, _⟩ | ⟨a, len, cap, elems, rest, n, _, rfl, _, _, hl, hm, hel, hat, _, _⟩
  · exact ⟨[], ⟨⟨none, 0, rfl, Nat.le_refl _, fun _ => rfl, .inl rfl⟩, trivial⟩, by simp [maxLen], fun x hx => by cases hx⟩
  · have key : ∀ i, i < len → ∃ x cs', cs'.length = sz ∧ RepL (oldF W) W (c x) cs' ∧ B x ∧ ∀ j u, cs'[j]? = some u → W.cell? (a.add (i * sz + j)) = some u := by
      intro i hi
      have h1 := hat i hi
      rw [List.getElem?_eq_getElem (by omega)] at h1
      obtain ⟨cs', h2, h3⟩ := Option.bind_eq_some_iff.1 h1
      obtain ⟨x, hk, hb⟩ := hd.out enc W n cs' _ h3
      have hlen : cs'.length = sz := by rw [← hs x, hk.len]
      refine ⟨x, cs', hlen, hk, hb, fun j u hu => ?_⟩
      rw [hc] at h2
      unfold World.cells? at h2
      rw [if_pos (Nat.zero_le _)] at h2
      have h4 := mapM_some_get h2 j j (by
        have := (List.getElem?_eq_some_iff.1 hu).1
        rw [hlen] at this
        simp [this])
      rw [hu] at h4
      have ha : (a.add (i * sz)).add j = a.add (i * sz + j) := by
        unfold Addr.add
        by_cases e1 : i * sz = 0 <;> by_cases e2 : j = 0 <;> simp [e1, e2, Nat.add_assoc]
      rw [ha] at h4
      exact h4
    have key2 : ∀ m, m ≤ len → ∃ xs : List α, xs.length = m ∧ (∀ x ∈ xs, B x) ∧ ∀ i x, xs[i]? = some x → ∃ cs', cs'.length = sz ∧ RepL (oldF W) W (c x) cs' ∧ ∀ j u, cs'[j]? = some u → W.cell? (a.add (i * sz + j)) = some u := by
      intro m
      induction m with
      | zero => intro _; exact ⟨[], rfl, fun x hx => (by cases hx), fun i x hx => by simp at hx⟩
      | succ m ih =>
        intro hm2
        obtain ⟨xs, h1, h2, h3⟩ := ih (by omega)
        obtain ⟨x, c', h4, h5, h6, h7⟩ := key m (by omega)
        refine ⟨xs ++ [x], by simp [h1], fun y hy => ?_, fun i y hy => ?_⟩
        · rcases List.mem_append.1 hy with hy | hy
          · exact h2 y hy
          · rw [List.mem_singleton.1 hy]; exact h6
        · rcases Nat.lt_or_ge i xs.length with hi | hi
          · rw [List.getElem?_append_left hi] at hy; exact h3 i y hy
          · have hi2 : i = xs.length := by
              have := (List.getElem?_eq_some_iff.1 hy).1
              simp at this
              omega
            subst hi2
            simp at hy
            subst hy
            rw [h1]
            exact ⟨c', h4, h5, h7⟩
    obtain ⟨xs, h1, h2, h3⟩ := key2 len (Nat.le_refl _)
    refine ⟨xs, ⟨⟨some a, cap, by rw [h1], by rw [h1]; omega, fun h => (nomatch h), ?_⟩, trivial⟩, by rw [h1]; simp only [maxLen] at hm ⊢; omega, h2⟩
    rcases Nat.eq_zero_or_pos len with hz | hz
    · left; rw [h1, hz]
    · right
      have hcell : ∀ i, i < len → ∀ j, j < sz → ∃ u, W.cell? (a.add (i * sz + j)) = some u ∧ Rep (oldF W) W ((c (xs.getD i d)).getD j .u) u := by
        intro i hi j hj
        have hxi : xs[i]? = some (xs.getD i d) := by rw [List.getD_eq_getElem?_getD, List.getElem?_eq_getElem (by omega)]; rfl
        obtain ⟨cs', k1, k2, k3⟩ := h3 i _ hxi
        have hcj : cs'[j]? = some (cs'[j]'(by omega)) := List.getElem?_eq_getElem (by omega)
        exact ⟨_, k3 j _ hcj, k2.get j _ hcj⟩
      obtain ⟨u0, hu0, _⟩ := hcell 0 hz 0 h0
      have ha0 : a.add (0 * sz + 0) = a := by simp [Addr.add]
      rw [ha0] at hu0
      refine ⟨a.block, a.off, by rw [← spot_none hu0], World.block_lt_of_cell? W a hu0, fun i hi j hj => ?_⟩
      rw [h1] at hi
      obtain ⟨u, k1, k2⟩ := hcell i hi j hj
      exact ⟨u, cell_add k1, k2⟩
theorem chg_below {w w' : World} (h : Chg (fun _ => False) w w') : Below w.heap.size w w' := ⟨h.os, h.tape, h.output, h.size, fun k hk => h.block k hk (fun h => h)⟩
theorem Spec.law {P : Program} {f : FuncId} {args : List FV} (h : Spec P f args (.p (.bool true)) []) {W : World} {vs : Array Value} (hv : RelVs ⟨oldF W, W, fun _ => undef, []⟩ args vs.toList) : Calls P f vs W fun e W' => e = .returned (.bool true) ∧ Below W.heap.size W W' := by
  refine (h W (oldF W) (fun _ => undef) vs (fun _ h => h) hv).mono fun e W' ⟨v, F', κ', he, hI, hr⟩ => ⟨?_, chg_below hI.chg⟩
  simp only [RelV, Rep] at hr
  rw [he, hr]
end Go.Proofs.YtjhnpaenhdbhpaaV
