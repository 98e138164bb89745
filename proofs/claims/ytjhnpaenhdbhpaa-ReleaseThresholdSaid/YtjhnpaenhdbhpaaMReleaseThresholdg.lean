/- Part of the proof of ReleaseThreshold: printed by programs of this repo out of the translation, and by hand. Each theorem's conditions stand in its statement. -/
import Derived.WideShapes
import Derived.ProofKit
import Derived.OpenShut
import Derived.ShutString
import Derived.ChangeOld
import Derived.SizedLaws
import Derived.ChangeSlices
import Derived.Test.YtjhnpaenhdbhpaaMReleaseThresholda
import Derived.Test.YtjhnpaenhdbhpaaMReleaseThresholdb
import Derived.Test.YtjhnpaenhdbhpaaMReleaseThresholdc
import Derived.Test.YtjhnpaenhdbhpaaMReleaseThresholdd
import Derived.Test.YtjhnpaenhdbhpaaMReleaseThresholde
import Derived.Test.YtjhnpaenhdbhpaaMReleaseThresholdf
namespace Go.Proofs.Ytjhnpaenhdbhpaa.Q
open Go.RowKit Go.Proofs.Ytjhnpaenhdbhpaa.P Go.Proofs.YtjhnpaenhdbhpaaW.PrintWords Go.Proofs.YtjhnpaenhdbhpaaW.PrintLast
set_option linter.unusedVariables false
set_option linter.unusedSimpArgs false
theorem threshold_loop (T : Int) (hT : 1 ≤ T ∧ T ≤ 16) (a b : ByteArray) (rows : List S41) (pub : List S43) (hr : rows.length ≤ 40) (hp : pub.length ≤ 40) :
    ∀ i, i ≤ rows.length → ∀ j g, IsG g (rows.drop i) → j ≤ pub.length → (rows.drop i).filterMap (pubE T 1) = pub.drop j → Ev (fun k => erasurelaw35_ReleaseThreshold.l0 k rows pub (j : Int) (i : Int) a b T) true := by
  refine loop_down (P := fun i => ∀ j g, IsG g (rows.drop i) → j ≤ pub.length → (rows.drop i).filterMap (pubE T 1) = pub.drop j → Ev (fun k => erasurelaw35_ReleaseThreshold.l0 k rows pub (j : Int) (i : Int) a b T) true) rows.length ?_ ?_
  · intro j g _ hj h
    rw [List.drop_length] at h
    have : j = pub.length := by
      have := congrArg List.length h
      simp at this
      omega
    subst this
    refine Ev.succ ?_
    simp only [erasurelaw35_ReleaseThreshold.l0]
    refine Ev.ite_neg (by omega) (Ev.ite_pos (by simp) ?_)
    exact Ev.bind awake_ev (Ev.now _)
  · intro i hi ih j g hg hj h
    rw [dE hi] at hg h
    obtain ⟨x, n, h1, h2, h3, h4, h5, h6⟩ := hg
    refine Ev.succ ?_
    simp only [erasurelaw35_ReleaseThreshold.l0]
    rw [wrn hi (by omega)]
    have e0 : (rd_T41 rows (i : Int)).f0 = [intV x, intV n] := by rw [h5]; rfl
    rw [h5] at h
    have hpe := pubE_rowG (T := T) h2 ⟨h3, h4⟩
    simp only [e0]
    have e1 : rd_T38 [intV x, intV n] 1 = intV n := rfl
    have e2 : rd_T38 [intV x, intV n] 0 = intV x := rfl
    simp only [e1, e2]
    refine Ev.ite_pos (by omega) (Ev.ite_pos (by omega) (Ev.ite_pos (by simp) ?_))
    show Ev (fun k => if n < T then _ else _) true
    by_cases hn : n < T
    · rw [List.filterMap_cons_none (by rw [hpe, if_neg (by omega)])] at h
      exact Ev.ite_pos hn (ih j _ h6 hj h)
    · rw [List.filterMap_cons_some (by rw [hpe, if_pos (by omega)])] at h
      have hjl : j < pub.length := by
        rcases Nat.lt_or_ge j pub.length with h7 | h7
        · exact h7
        · rw [List.drop_eq_nil_of_le h7] at h; cases h
      rw [dU hjl] at h
      obtain ⟨h8, h9⟩ := List.cons.inj h
      have e3 : (rd_T43 pub (j : Int)).f0 = [intV x] := by rw [← h8]; rfl
      have e4 : (rd_T43 pub (j : Int)).f1 = n - Int.tmod n T := by rw [← h8]; rfl
      have e5 : rd_T38 [intV x] 0 = intV x := rfl
      simp only [e3, e4, e5]
      have hr := tmod_rng hT.1 (show T ≤ n by omega)
      rw [wrn hjl (by omega)]
      refine Ev.ite_neg hn (Ev.ite_neg (by omega) (Ev.ite_pos (by omega) (Ev.ite_pos (by omega) (Ev.ite_pos (by simp) (Ev.ite_pos (by simp) (Ev.ite_pos (by simp) (Ev.ite_neg (by simp) ?_)))))))
      refine Ev.ite_neg (by show ¬ (n - Int.tmod n T > n); omega) ?_
      have e6 : wrap64 ((intV n).f1 - T) = n - T := wr (by show _ ≤ n - T ∧ n - T ≤ _; omega)
      rw [e6]
      refine Ev.ite_neg (by omega) (Ev.ite_neg (by omega) (Ev.ite_pos ?_ (ih (j + 1) _ h6 (by omega) h9)))
      have : n - Int.tmod n T = T * (Int.tdiv n T) := by have := Int.mul_tdiv_add_tmod n T; omega
      rw [this]; exact Int.mul_tmod_right _ _
theorem ReleaseThreshold_pure (n : Int) (l : List Int) (hl : l.length ≤ 9223372036854775807) : ∃ k, erasurelaw35_ReleaseThreshold.f k n l = some true := by
  refine Ev.rounds (g := fun k => erasurelaw35_ReleaseThreshold.f k n l) ?_
  unfold erasurelaw35_ReleaseThreshold.f
  have hT := limS_rng n
  have hg := grpS_is l 0
  refine Ev.bindc (limit_eq n) (Ev.bind (Groups_ev l hl) (Ev.bind (Publish_ev _ _ _ _ _ hg.fin) ?_))
  rw [pubS_grp hT.1 hg]
  have h40 := hg.len40
  exact threshold_loop (limS n) hT _ _ (grpS 0 l) _ h40 (Nat.le_trans (List.length_filterMap_le _ _) h40) 0 (by omega) 0 0 hg (by omega) (by simp)
theorem ReleaseThreshold_std (x0 : Int) (x1 : List Int) (h0 : (Lit.int .i64 x0).wf = true) (h1 : (x1.length ≤ maxLen ∧ ∀ x ∈ x1, (Lit.int .i64 x).wf = true)) : ∃ k, erasurelaw35_ReleaseThreshold.f k x0 x1 = some true :=
  ReleaseThreshold_pure x0 x1 (by have := h1.1; simp only [maxLen] at this; omega)
end Go.Proofs.Ytjhnpaenhdbhpaa.Q
namespace Go.Proofs.Ytjhnpaenhdbhpaa.Q
open Go.RowKit Go.Proofs.Ytjhnpaenhdbhpaa.P Go.Proofs.YtjhnpaenhdbhpaaW.PrintWords Go.Proofs.YtjhnpaenhdbhpaaW.PrintLast
set_option linter.unusedVariables false
set_option linter.unusedSimpArgs false
def Opens {α : Type} (P : Program) (t : TypeId) (d : Kd α) (B : α → Prop) : Prop :=
  ∀ {H : Type} (enc : TypeId × Value → H) (W : World) (fuel : Nat) (cs : List Value) (y : DataW H × List MemPlace), DataW.trod enc P W 0 (fun _ => true) true fuel t cs = some y → ∃ x, d.K W x cs ∧ B x
theorem opens_int {P : Program} {t : TypeId} {k : IntKind} (ht : P.underlying t = some (.int k)) : Opens P t (Kd.int k) (fun n => (Lit.int k n).wf = true) := by
  intro H enc W fuel cs y h
  obtain ⟨n, rfl, _, hw⟩ := DataW.trod_int ht h
  exact ⟨n, rfl, hw⟩
theorem opens_slice {α : Type} {P : Program} {t e : TypeId} {d : Kd α} {B : α → Prop} (ht : P.underlying t = some (.slice e)) (hd : Opens P e d B) (hc : P.cellsOf e = d.sz) : Opens P t (Kd.slice e d) (fun xs => xs.length ≤ maxLen ∧ ∀ x ∈ xs, B x) := by
  intro H enc W fuel cs y h
  rcases DataW.trod_slice ht h with ⟨rfl, _⟩ | ⟨a, len, cap, elems, rest, n, _, rfl, _, _, hl, hm, hel, hat, _, _⟩
  · exact ⟨[], ⟨none, 0, rfl, Nat.le_refl _, Kd.C_nil d W⟩, by simp [maxLen], fun x hx => by cases hx⟩
  · have key : ∀ i, i < len → ∃ x cs', cs'.length = d.sz ∧ d.K W x cs' ∧ B x ∧ ∀ j u, cs'[j]? = some u → W.cell? (a.add (i * d.sz + j)) = some u := by
      intro i hi
      have h1 := hat i hi
      rw [List.getElem?_eq_getElem (by omega)] at h1
      obtain ⟨cs', h2, h3⟩ := Option.bind_eq_some_iff.1 h1
      obtain ⟨x, hk, hb⟩ := hd enc W n cs' _ h3
      refine ⟨x, cs', d.K_len hk, hk, hb, fun j u hu => ?_⟩
      rw [hc] at h2
      unfold World.cells? at h2
      rw [if_pos (Nat.zero_le _)] at h2
      have h4 := mapM_some_get h2 j j (by
        have := (List.getElem?_eq_some_iff.1 hu).1
        rw [d.K_len hk] at this
        simp [this])
      rw [hu] at h4
      have ha : (a.add (i * d.sz)).add j = a.add (i * d.sz + j) := by
        unfold Addr.add
        by_cases e1 : i * d.sz = 0 <;> by_cases e2 : j = 0 <;> simp [e1, e2, Nat.add_assoc]
      rw [ha] at h4
      exact h4
    have key2 : ∀ m, m ≤ len → ∃ xs : List α, xs.length = m ∧ (∀ x ∈ xs, B x) ∧ ∀ i x, xs[i]? = some x → ∃ c, c.length = d.sz ∧ d.K W x c ∧ ∀ j u, c[j]? = some u → W.cell? (a.add (i * d.sz + j)) = some u := by
      intro m
      induction m with
      | zero => intro _; exact ⟨[], rfl, fun x hx => (by cases hx), fun i x hx => by simp at hx⟩
      | succ m ih =>
        intro hm2
        obtain ⟨xs, h1, h2, h3⟩ := ih (by omega)
        obtain ⟨x, c, h4, h5, h6, h7⟩ := key m (by omega)
        refine ⟨xs ++ [x], by simp [h1], fun y hy => ?_, fun i y hy => ?_⟩
        · rcases List.mem_append.1 hy with hy | hy
          · exact h2 y hy
          · rw [List.mem_singleton.1 hy]; exact h6
        · rcases Nat.lt_or_ge i xs.length with hi | hi
          · rw [List.getElem?_append_left hi] at hy; exact h3 i y hy
          · have hi2 : i = xs.length := by
              have := (List.getElem?_eq_some_iff.1 hy).1
              simp at this
              omega
            subst hi2
            simp at hy
            subst hy
            rw [h1]
            exact ⟨c, h4, h5, h7⟩
    obtain ⟨xs, h1, h2, h3⟩ := key2 len (Nat.le_refl _)
    refine ⟨xs, ⟨some a, cap, by rw [h1], by omega, rfl, by rw [h1]; simp only [maxLen] at hm; omega, fun hp => ⟨a, rfl, h3⟩⟩, by rw [h1]; simp only [maxLen] at hm ⊢; omega, h2⟩
end Go.Proofs.Ytjhnpaenhdbhpaa.Q
