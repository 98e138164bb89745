/- Part of the proof of CacheFresh: printed by programs of this repo out of the translation, and by hand. Each theorem's conditions stand in its statement. -/
import Derived.WideShapes
import Derived.ProofKit
import Derived.OpenShut
import Derived.ShutString
import Derived.ChangeOld
import Derived.SizedLaws
import Derived.ChangeSlices
import Derived.Orders
import Derived.Below
import Derived.Laws.AppendOwn
import Derived.Laws.OwnMore
import Derived.KernelRfl
import Derived.Test.YtjhnpaenhdbhpacMCacheFresha
import Derived.Test.YtjhnpaenhdbhpacMCacheFreshb
import Derived.Test.YtjhnpaenhdbhpacMCacheFreshc
import Derived.Test.YtjhnpaenhdbhpacMCacheFreshd
set_option linter.unusedVariables false
set_option linter.unusedSimpArgs false
namespace Go.Proofs.YtjhnpaenhdbhpacV
open Go Go.RowKit
theorem bits_or (a b : Int) (ha : 0 ≤ a ∧ a ≤ 1099511627776) (hb : 0 ≤ b ∧ b ≤ 255) : Go.bits .or .i64 (a * 256) b = a * 256 + b := by
  obtain ⟨m, rfl⟩ : ∃ m : Nat, a = (m : Int) := ⟨a.toNat, by omega⟩
  obtain ⟨n, rfl⟩ : ∃ n : Nat, b = (n : Int) := ⟨b.toNat, by omega⟩
  have e : ((m : Int) * 256) = ((2 ^ 8 * m : Nat) : Int) := by simp; omega
  rw [e]
  unfold Go.bits
  have hb' : (IntKind.i64).bits = 64 := rfl
  simp only [BitVec.toNat_or, BitVec.toNat_ofInt, BitVec.ofInt_natCast, BitVec.toNat_ofNat, hb']
  rw [Nat.mod_eq_of_lt (show 2 ^ 8 * m < 2 ^ 64 by omega), Nat.mod_eq_of_lt (show n < 2 ^ 64 by omega), ← Nat.two_pow_add_eq_or_of_lt (show n < 2 ^ 8 by omega) m, IntKind.wrap_i64]
  omega
theorem at_app (P Q : List Int) (x : Int) (n : Nat) (hn : n = P.length) : (P ++ x :: Q).getD n 0 = x := by
  subst hn
  simp
theorem dec_rest (x : List Int) (rest : List Int) (a : Int) (ha : a.toNat = x.length) : (byteL (x ++ rest)).extract a.toNat (((byteL (x ++ rest)).size : Nat) : Int).toNat = byteL rest := by
  rw [Int.toNat_natCast, byteL_size, byteL_ext, ha]
  congr 1
  rw [List.take_of_length_le (Nat.le_refl _)]
  simp
theorem dect (rest : List Int) (hr : isB rest) : ∀ (t P out : List Int), isB t → isB P → (P ++ (escL t ++ [0, 0]) ++ rest).length ≤ 1000000 → out.length ≤ P.length → ∀ s, s = byteL (P ++ (escL t ++ [0, 0]) ++ rest) →
    Ev (fun k => value_decodeText.p1 k s (P.length : Int) out) (byteL (out ++ t), byteL rest, true)
  | [], P, out, _, hP, hl, ho, s, hs => by
    have hB : isB (P ++ (escL [] ++ [0, 0]) ++ rest) := isB_app.2 ⟨isB_app.2 ⟨hP, isB_cons.2 ⟨by omega, isB_cons.2 ⟨by omega, isB_nil⟩⟩⟩, hr⟩
    have hlen : s.size = P.length + 2 + rest.length := by rw [hs, byteL_size]; simp [escL]; omega
    have e : P ++ (escL [] ++ [0, 0]) ++ rest = P ++ 0 :: (0 :: rest) := by simp [escL]
    have e' : P ++ (escL [] ++ [0, 0]) ++ rest = (P ++ [0]) ++ 0 :: rest := by simp [escL]
    have g0 : ((s.data.getD (P.length : Int).toNat 0).toNat : Int) = 0 := by rw [hs, byteL_get hB, e]; exact at_app _ _ _ _ (by simp)
    simp only [List.length_append, escL, List.length_nil, List.length_cons] at hl
    have w1 : IntKind.i64.wrap ((P.length : Int) + 1) = ((P.length + 1 : Nat) : Int) := by rw [wr (by omega)]; omega
    have w2 : IntKind.i64.wrap ((P.length : Int) + 2) = ((P.length + 2 : Nat) : Int) := by rw [wr (by omega)]; omega
    have g1 : ((s.data.getD ((P.length + 1 : Nat) : Int).toNat 0).toNat : Int) = 0 := by rw [hs, byteL_get hB, e']; exact at_app _ _ _ _ (by simp)
    have ex : s.extract ((P.length + 2 : Nat) : Int).toNat ((s.size : Nat) : Int).toNat = byteL rest := by
      have e3 : P ++ (escL [] ++ [0, 0]) ++ rest = (P ++ [0, 0]) ++ rest := by simp [escL]
      rw [hs, e3]
      exact dec_rest (P ++ [0, 0]) rest _ (by simp; omega)
    refine Ev.succ ?_
    simp only [value_decodeText.p1, decide_eq_true_eq, beq_iff_eq, bne_iff_ne, w1, w2, g0, g1, ex]
    exact Ev.ite_pos (by omega) (Ev.ite_pos (by omega) (Ev.ite_neg (fun q => q rfl) (Ev.ite_pos (by omega) (Ev.ite_pos trivial (Ev.ite_pos (by omega) (Ev.done (by simp)))))))
  | c :: t, P, out, ht, hP, hl, ho, s, hs => by
    have hc := isB_cons.1 ht
    have hB : isB (P ++ (escL (c :: t) ++ [0, 0]) ++ rest) := isB_app.2 ⟨isB_app.2 ⟨hP, isB_app.2 ⟨escL_isB ht, isB_cons.2 ⟨by omega, isB_cons.2 ⟨by omega, isB_nil⟩⟩⟩⟩, hr⟩
    have hsz : s.size = (P ++ (escL (c :: t) ++ [0, 0]) ++ rest).length := by rw [hs, byteL_size]
    by_cases h0 : c = 0
    · subst h0
      have ee : escL (0 :: t) = 0 :: 255 :: escL t := by rw [escL, if_pos rfl]
      rw [ee] at hl hs hB hsz
      have e : P ++ ((0 :: 255 :: escL t) ++ [0, 0]) ++ rest = P ++ 0 :: (255 :: (escL t ++ [0, 0] ++ rest)) := by simp
      have e' : P ++ ((0 :: 255 :: escL t) ++ [0, 0]) ++ rest = (P ++ [0]) ++ 255 :: (escL t ++ [0, 0] ++ rest) := by simp
      have e2 : P ++ ((0 :: 255 :: escL t) ++ [0, 0]) ++ rest = (P ++ [0, 255]) ++ (escL t ++ [0, 0]) ++ rest := by simp
      have g0 : ((s.data.getD (P.length : Int).toNat 0).toNat : Int) = 0 := by rw [hs, byteL_get hB, e]; exact at_app _ _ _ _ (by simp)
      have g1 : ((s.data.getD ((P.length + 1 : Nat) : Int).toNat 0).toNat : Int) = 255 := by rw [hs, byteL_get hB, e']; exact at_app _ _ _ _ (by simp)
      have ih := dect rest hr t (P ++ [0, 255]) (out ++ [0]) hc.2 (isB_app.2 ⟨hP, isB_cons.2 ⟨by omega, isB_cons.2 ⟨by omega, isB_nil⟩⟩⟩) (by rw [← e2]; exact hl) (by simp; omega) s (by rw [hs, e2])
      simp only [List.length_append, List.length_cons, List.length_nil] at hl hsz ih
      have w1 : IntKind.i64.wrap ((P.length : Int) + 1) = ((P.length + 1 : Nat) : Int) := by rw [wr (by omega)]; omega
      have w3 : IntKind.i64.wrap (((P.length + 1 : Nat) : Int) + 1) = ((P.length + 2 : Nat) : Int) := by rw [wr (by omega)]; omega
      refine Ev.succ ?_
      simp only [value_decodeText.p1, decide_eq_true_eq, beq_iff_eq, bne_iff_ne, w1, w3, g0, g1]
      refine Ev.ite_pos (by omega) (Ev.ite_pos (by omega) (Ev.ite_neg (fun q => q rfl) (Ev.ite_pos (by omega) (Ev.ite_neg (by omega) (Ev.ite_pos trivial (Ev.ite_pos (by simp only [maxLen, List.length_singleton]; omega) ?_))))))
      exact ih.to (by simp)
    · have ee : escL (c :: t) = c :: escL t := by rw [escL, if_neg h0]
      rw [ee] at hl hs hB hsz
      have e : P ++ ((c :: escL t) ++ [0, 0]) ++ rest = P ++ c :: (escL t ++ [0, 0] ++ rest) := by simp
      have e2 : P ++ ((c :: escL t) ++ [0, 0]) ++ rest = (P ++ [c]) ++ (escL t ++ [0, 0]) ++ rest := by simp
      have g0 : ((s.data.getD (P.length : Int).toNat 0).toNat : Int) = c := by rw [hs, byteL_get hB, e]; exact at_app _ _ _ _ (by simp)
      have ih := dect rest hr t (P ++ [c]) (out ++ [c]) hc.2 (isB_app.2 ⟨hP, isB_cons.2 ⟨hc.1, isB_nil⟩⟩) (by rw [← e2]; exact hl) (by simp; omega) s (by rw [hs, e2])
      simp only [List.length_append, List.length_cons, List.length_nil] at hl hsz ih
      have w1 : IntKind.i64.wrap ((P.length : Int) + 1) = ((P.length + 1 : Nat) : Int) := by rw [wr (by omega)]; omega
      refine Ev.succ ?_
      simp only [value_decodeText.p1, decide_eq_true_eq, beq_iff_eq, bne_iff_ne, w1, g0]
      refine Ev.ite_pos (by omega) (Ev.ite_pos (by omega) (Ev.ite_pos h0 (Ev.ite_pos (by simp only [maxLen, List.length_singleton]; omega) ?_)))
      exact ih.to (by simp)
theorem dec_int (s : ByteArray) (hs : 6 ≤ s.size) (n : Int) (hn : 0 ≤ n ∧ n ≤ 8589934592) : Ev (fun k => value_decode.p1 k s 0 (be5 n) ((be5 n).length : Int) 0 (TValue.mk 0 0 (⟨#[]⟩ : ByteArray))) ((TValue.mk 1 (IntKind.i64.wrap (n - 4294967296)) (⟨#[]⟩ : ByteArray)), s.extract (6 : Int).toNat (s.size : Int).toNat, true) := by
  have hl : (be5 n).length = 5 := rfl
  have p8 : (2 : Int) ^ min (8 : Int).toNat IntKind.i64.bits = 256 := by decide
  have stp : ∀ (a b : Int), (0 ≤ a ∧ a ≤ 33554432) → (0 ≤ b ∧ b ≤ 255) → Go.bits .or .i64 (IntKind.i64.wrap (a * 256)) (IntKind.i64.wrap b) = a * 256 + b := by
    intro a b ha hb
    rw [wr (by omega), wr (by omega), bits_or a b (by omega) hb]
  rw [hl]
  refine Ev.succ ?_
  simp only [value_decode.p1, decide_eq_true_eq, p8, hl]
  rw [show (be5 n).getD (0 : Int).toNat 0 = n / 4294967296 % 256 from rfl, stp 0 _ (by omega) (by omega)]
  refine Ev.ite_pos (by decide) (Ev.ite_pos (by decide) (Ev.succ ?_))
  rw [show IntKind.i64.wrap (0 + 1) = 1 from rfl]
  simp only [value_decode.p1, decide_eq_true_eq, p8, hl]
  rw [show (be5 n).getD (1 : Int).toNat 0 = n / 16777216 % 256 from rfl, stp _ _ (by omega) (by omega)]
  refine Ev.ite_pos (by decide) (Ev.ite_pos (by decide) (Ev.succ ?_))
  rw [show IntKind.i64.wrap (1 + 1) = 2 from rfl]
  simp only [value_decode.p1, decide_eq_true_eq, p8, hl]
  rw [show (be5 n).getD (2 : Int).toNat 0 = n / 65536 % 256 from rfl, stp _ _ (by omega) (by omega)]
  refine Ev.ite_pos (by decide) (Ev.ite_pos (by decide) (Ev.succ ?_))
  rw [show IntKind.i64.wrap (2 + 1) = 3 from rfl]
  simp only [value_decode.p1, decide_eq_true_eq, p8, hl]
  rw [show (be5 n).getD (3 : Int).toNat 0 = n / 256 % 256 from rfl, stp _ _ (by omega) (by omega)]
  refine Ev.ite_pos (by decide) (Ev.ite_pos (by decide) (Ev.succ ?_))
  rw [show IntKind.i64.wrap (3 + 1) = 4 from rfl]
  simp only [value_decode.p1, decide_eq_true_eq, p8, hl]
  rw [show (be5 n).getD (4 : Int).toNat 0 = n % 256 from rfl, stp _ _ (by omega) (by omega)]
  refine Ev.ite_pos (by decide) (Ev.ite_pos (by decide) (Ev.succ ?_))
  rw [show IntKind.i64.wrap (4 + 1) = 5 from rfl]
  simp only [value_decode.p1, decide_eq_true_eq]
  refine Ev.ite_neg (by decide) (Ev.ite_pos (by omega) (Ev.done ?_))
  congr 3
  congr 1
  omega
theorem decode_ev (v : TValue) (hv : okV v = true) (rest : List Int) (hr : isB rest) (hl : rest.length ≤ 900000) : Ev (fun k => value_decode k (byteL (encV v ++ rest))) (v, byteL rest, true) := by
  have hB : isB (encV v ++ rest) := isB_app.2 ⟨encV_isB v, hr⟩
  have hvl := encV_len hv
  unfold value_decode
  simp only [beq_iff_eq, decide_eq_true_eq, byteL_get hB]
  by_cases h1 : v.f0 = 1
  · obtain ⟨a1, a2, a3⟩ := okV_int1 hv h1
    have hev : encV v = 2 :: be5 (v.f1 + 4294967296) := by unfold encV; rw [if_pos h1]
    have hsz : (byteL (encV v ++ rest)).size = 6 + rest.length := by rw [byteL_size, hev]; simp [be5]; omega
    have g : (encV v ++ rest).getD (0 : Int).toNat 0 = 2 := by rw [hev]; rfl
    rw [g]
    have hmid : strL ((byteL (encV v ++ rest)).extract (1 : Int).toNat (6 : Int).toNat) = be5 (v.f1 + 4294967296) := by
      rw [byteL_ext, hev, str_byteL]
      · rfl
      · exact be5_isB _
    rw [hmid]
    refine Ev.ite_pos (by omega) (Ev.ite_neg (by omega) (Ev.ite_pos rfl (Ev.ite_neg (by omega) (Ev.ite_pos (by omega) ((dec_int _ (by omega) _ (by omega)).to ?_)))))
    have hx : (byteL (encV v ++ rest)).extract (6 : Int).toNat (((byteL (encV v ++ rest)).size : Nat) : Int).toNat = byteL rest := dec_rest (encV v) rest 6 (by rw [hev]; rfl)
    rw [hx, wr (by omega)]
    congr 1
    exact V_ext h1.symm (by show v.f1 + 4294967296 - 4294967296 = v.f1; omega) a3.symm
  · by_cases h2 : v.f0 = 2
    · have h32 := okV_txt hv
      have hf1 : v.f1 = 0 := by
        unfold okV at hv
        rw [if_neg (by omega), if_neg h1, if_pos h2] at hv
        simp only [Bool.and_eq_true, decide_eq_true_eq] at hv
        exact hv.1
      have hev : encV v = 3 :: (escL (strL v.f2) ++ [0, 0]) := by unfold encV; rw [if_neg h1, if_pos h2]
      have hsz : (byteL (encV v ++ rest)).size = (encV v).length + rest.length := by rw [byteL_size, List.length_append]
      have h0 : 0 < (encV v).length := by rw [hev]; simp
      have g : (encV v ++ rest).getD (0 : Int).toNat 0 = 3 := by rw [hev]; rfl
      rw [g]
      have hx : (byteL (encV v ++ rest)).extract (1 : Int).toNat (((byteL (encV v ++ rest)).size : Nat) : Int).toNat = byteL ([] ++ (escL (strL v.f2) ++ [0, 0]) ++ rest) := by
        have : encV v ++ rest = [3] ++ ([] ++ (escL (strL v.f2) ++ [0, 0]) ++ rest) := by rw [hev]; simp
        rw [this]
        exact dec_rest [3] _ 1 rfl
      rw [hx]
      have hd : Ev (fun k => value_decodeText k (byteL ([] ++ (escL (strL v.f2) ++ [0, 0]) ++ rest))) (byteL ([] ++ strL v.f2), byteL rest, true) := by
        unfold value_decodeText
        have hle := escL_len (strL v.f2)
        rw [strL_len] at hle
        exact dect rest hr (strL v.f2) [] [] (isB_str _) isB_nil (by simp; omega) (by simp) _ rfl
      refine Ev.ite_pos (by omega) (Ev.ite_neg (by omega) (Ev.ite_neg (by omega) (Ev.ite_pos rfl (Ev.ite_pos (by omega) (Ev.bind hd (Ev.done ?_))))))
      congr 1
      exact V_ext h2.symm hf1.symm (by show byteL ([] ++ strL v.f2) = v.f2; rw [List.nil_append, byteL_str])
    · have hz : v = ⟨0, 0, ⟨#[]⟩⟩ := by
        unfold okV at hv
        rw [if_neg h1, if_neg h2] at hv
        split at hv
        · rename_i h0
          simp only [Bool.and_eq_true, decide_eq_true_eq] at hv
          exact V_ext h0 hv.1 hv.2
        · cases hv
      have hev : encV v = [1] := by unfold encV; rw [if_neg h1, if_neg h2]
      have hsz : (byteL (encV v ++ rest)).size = 1 + rest.length := by rw [byteL_size, hev]; simp; omega
      have g : (encV v ++ rest).getD (0 : Int).toNat 0 = 1 := by rw [hev]; rfl
      rw [g]
      have hx : (byteL (encV v ++ rest)).extract (1 : Int).toNat (((byteL (encV v ++ rest)).size : Nat) : Int).toNat = byteL rest := dec_rest (encV v) rest 1 (by rw [hev]; rfl)
      rw [hx]
      exact Ev.ite_pos (by omega) (Ev.ite_pos rfl (Ev.ite_pos (by omega) (Ev.done (by rw [hz]))))
theorem encV_ne (v : TValue) : encV v ≠ [] := by
  unfold encV
  split
  · simp
  · split <;> simp
theorem encR_len : ∀ {r : List TValue}, (∀ v ∈ r, okV v = true) → (encR r).length ≤ 70 * r.length
  | [], _ => by simp [encR]
  | v :: r, h => by
    have h1 := encV_len (h v (List.mem_cons_self ..))
    have ih := encR_len (r := r) (fun x hx => h x (List.mem_cons_of_mem _ hx))
    unfold encR at ih ⊢
    rw [List.flatMap_cons, List.length_append, List.length_cons]
    omega
theorem DecodeRow_p1 : ∀ (r row : List TValue), (∀ v ∈ row ++ r, okV v = true) → (row ++ r).length ≤ 16 → Ev (fun k => value_DecodeRow.p1 k (byteL (encR r)) row) (row ++ r, 0)
  | [], row, h, hl => by
    refine Ev.succ ?_
    simp only [value_DecodeRow.p1]
    have e : (byteL (encR [])).data.toList = [] := by rw [byteL_nil]; rfl
    rw [List.append_nil] at h hl ⊢
    have hv : okRow row = true := by
      unfold okRow
      rw [Bool.and_eq_true, decide_eq_true_eq, List.all_eq_true]
      exact ⟨h, hl⟩
    have hd := value_ValidRow_ev row (by omega)
    rw [hv] at hd
    refine Ev.ite_neg (by rw [e]; decide) (Ev.bind hd (Ev.ite_neg (by simp) (Ev.now _)))
  | v :: r, row, h, hl => by
    have hv := h v (by simp)
    have hr : ∀ x ∈ r, okV x = true := fun x hx => h x (by simp [hx])
    have hlen := encR_len hr
    simp only [List.length_append, List.length_cons] at hl
    have ih := DecodeRow_p1 r (row ++ [v]) (by simpa using h) (by simp; omega)
    refine Ev.succ ?_
    simp only [value_DecodeRow.p1]
    have e : encR (v :: r) = encV v ++ encR r := by unfold encR; rw [List.flatMap_cons]
    rw [e]
    refine Ev.ite_pos ?_ (Ev.bind (decode_ev v hv (encR r) (encR_isB r) (by omega)) (Ev.ite_neg (by simp) (Ev.ite_pos (by simp only [maxLen, List.length_singleton]; omega) (ih.to (by simp)))))
    have hne : (byteL (encV v ++ encR r)).data.toList ≠ [] := by
      rw [ne_eq, byteL_nil, List.append_eq_nil_iff]
      exact fun q => encV_ne v q.1
    simp only [Bool.not_eq_true', beq_eq_false_iff_ne, ne_eq]
    exact hne
theorem DecodeRow_ev {r : List TValue} (h : okRow r = true) : Ev (fun k => value_DecodeRow k (byteL (encR r))) (r, 0) := by
  unfold okRow at h
  simp only [Bool.and_eq_true, decide_eq_true_eq, List.all_eq_true] at h
  unfold value_DecodeRow
  exact DecodeRow_p1 r [] h.1 h.2
theorem encR_inj {a b : List TValue} (ha : okRow a = true) (hb : okRow b = true) (h : byteL (encR a) = byteL (encR b)) : a = b := by
  obtain ⟨K, hK⟩ := DecodeRow_ev ha
  obtain ⟨L, hL⟩ := DecodeRow_ev hb
  have h1 := hK (max K L) (Nat.le_max_left _ _)
  have h2 := hL (max K L) (Nat.le_max_right _ _)
  rw [h, h2] at h1
  exact (Prod.mk.inj (Option.some.inj h1)).1.symm
end Go.Proofs.YtjhnpaenhdbhpacV
set_option linter.unusedVariables false
set_option linter.unusedSimpArgs false
namespace Go.Proofs.YtjhnpaenhdbhpacV
open Go Go.RowKit
theorem cmpC_trans {a b c : TValue} (ha : okV a = true) (hb : okV b = true) (hc : okV c = true) (h1 : cmpC a b < 0) (h2 : cmpC b c < 0) : cmpC a c < 0 := by
  rw [cmpC_neg ha hb] at h1
  rw [cmpC_neg hb hc] at h2
  rw [cmpC_neg ha hc]
  rcases h1 with h1 | ⟨e1, h1⟩ <;> rcases h2 with h2 | ⟨e2, h2⟩
  · exact .inl (by omega)
  · exact .inl (by omega)
  · exact .inl (by omega)
  · refine .inr ⟨by omega, ?_⟩
    rcases ok_cases ha with ⟨a0, a1, a2⟩ | ⟨a0, a2⟩ | ⟨a0, a1⟩ <;> rcases ok_cases hb with ⟨b0, b1, b2⟩ | ⟨b0, b2⟩ | ⟨b0, b1⟩ <;> rcases ok_cases hc with ⟨c0, c1, c2⟩ | ⟨c0, c2⟩ | ⟨c0, c1⟩ <;> (try omega)
    · rw [a2, b2] at h1
      rcases h1 with h1 | h1
      · omega
      · exact absurd h1 (List.lt_irrefl _)
    · rw [a2, b2] at h1
      rw [b2, c2] at h2
      rcases h1 with h1 | h1
      · rcases h2 with h2 | h2
        · exact .inl (by omega)
        · exact absurd h2 (List.lt_irrefl _)
      · exact absurd h1 (List.lt_irrefl _)
    · rcases h1 with h1 | h1
      · omega
      · rcases h2 with h2 | h2
        · omega
        · exact .inr (List.lt_trans h1 h2)
theorem cmpV_trans {a b c : TValue} (h1 : cmpV a b < 0) (h2 : cmpV b c < 0) : cmpV a c < 0 := cmpC_trans (okV_cl a) (okV_cl b) (okV_cl c) h1 h2
theorem cmpV_swap (a b : TValue) : cmpV b a = - cmpV a b := cmpC_swap _ _
theorem cmpV_self (a : TValue) : cmpV a a = 0 := (cmpC_zero (okV_cl a) (okV_cl a)).2 rfl
theorem cmpV_zero {a b : TValue} (ha : okV a = true) (hb : okV b = true) : cmpV a b = 0 ↔ a = b := by
  unfold cmpV
  rw [clV_ok ha, clV_ok hb]
  exact cmpC_zero ha hb
end Go.Proofs.YtjhnpaenhdbhpacV
set_option linter.unusedVariables false
set_option linter.unusedSimpArgs false
namespace Go.Proofs.YtjhnpaenhdbhpacV
open Go Go.RowKit
theorem cmpR_swap : ∀ a b : List TValue, cmpR b a = - cmpR a b
  | [], [] => rfl
  | [], _ :: _ => rfl
  | _ :: _, [] => rfl
  | x :: a, y :: b => by
    unfold cmpR
    have h := cmpV_swap x y
    by_cases h0 : cmpV x y = 0
    · rw [if_pos h0, if_pos (by omega)]; exact cmpR_swap a b
    · rw [if_neg h0, if_neg (by omega)]; exact h
theorem cmpR_self : ∀ a : List TValue, cmpR a a = 0
  | [] => rfl
  | x :: a => by unfold cmpR; rw [if_pos (cmpV_self x)]; exact cmpR_self a
theorem cmpV_zero_cl {a b : TValue} : cmpV a b = 0 ↔ clV a = clV b := cmpC_zero (okV_cl a) (okV_cl b)
theorem cmpV_congr {a a' b b' : TValue} (ha : clV a = clV a') (hb : clV b = clV b') : cmpV a b = cmpV a' b' := by unfold cmpV; rw [ha, hb]
theorem cmpR_zero : ∀ {a b : List TValue}, cmpR a b = 0 ↔ a.map clV = b.map clV
  | [], [] => by simp [cmpR]
  | [], _ :: _ => by simp [cmpR]
  | _ :: _, [] => by simp [cmpR]
  | x :: a, y :: b => by
    unfold cmpR
    simp only [List.map_cons, List.cons.injEq]
    by_cases h0 : cmpV x y = 0
    · rw [if_pos h0, cmpR_zero]
      exact ⟨fun h => ⟨cmpV_zero_cl.1 h0, h⟩, fun h => h.2⟩
    · rw [if_neg h0]
      exact ⟨fun h => absurd h h0, fun h => absurd (cmpV_zero_cl.2 h.1) h0⟩
theorem map_cl {l : List TValue} (h : ∀ x ∈ l, okV x = true) : l.map clV = l := by
  induction l with
  | nil => rfl
  | cons x l ih => rw [List.map_cons, clV_ok (h x (List.mem_cons_self ..)), ih (fun y hy => h y (List.mem_cons_of_mem _ hy))]
theorem okRow_mem {l : List TValue} (h : okRow l = true) : ∀ x ∈ l, okV x = true := by
  unfold okRow at h
  simp only [Bool.and_eq_true, List.all_eq_true] at h
  exact h.1
theorem okRow_len {l : List TValue} (h : okRow l = true) : l.length ≤ 16 := by
  unfold okRow at h
  simp only [Bool.and_eq_true, decide_eq_true_eq] at h
  exact h.2
theorem cmpR_zero_ok {a b : List TValue} (ha : okRow a = true) (hb : okRow b = true) : cmpR a b = 0 ↔ a = b := by
  rw [cmpR_zero, map_cl (okRow_mem ha), map_cl (okRow_mem hb)]
theorem cmpR_trans : ∀ {a b c : List TValue}, cmpR a b < 0 → cmpR b c < 0 → cmpR a c < 0
  | [], [], c, h, _ => by simp [cmpR] at h
  | [], _ :: _, [], _, h => by simp [cmpR] at h
  | [], _ :: _, _ :: _, _, _ => by simp [cmpR]
  | _ :: _, [], _, h, _ => by simp [cmpR] at h
  | _ :: _, _ :: _, [], _, h => by simp [cmpR] at h
  | x :: a, y :: b, z :: c, h1, h2 => by
    unfold cmpR at h1 h2 ⊢
    by_cases e1 : cmpV x y = 0
    · rw [if_pos e1] at h1
      have q := cmpV_congr (b := z) (cmpV_zero_cl.1 e1) rfl
      by_cases e2 : cmpV y z = 0
      · rw [if_pos e2] at h2
        rw [if_pos (by omega)]
        exact cmpR_trans h1 h2
      · rw [if_neg e2] at h2
        rw [if_neg (by omega)]; omega
    · rw [if_neg e1] at h1
      by_cases e2 : cmpV y z = 0
      · rw [if_pos e2] at h2
        have q := cmpV_congr (a := x) rfl (cmpV_zero_cl.1 e2)
        rw [if_neg (by omega)]; omega
      · rw [if_neg e2] at h2
        have := cmpV_trans h1 h2
        rw [if_neg (by omega)]; exact this
theorem cmpR_congr {a a' b b' : List TValue} (ha : a.map clV = a'.map clV) (hb : b.map clV = b'.map clV) : cmpR a b = cmpR a' b' := by
  induction a generalizing a' b b' with
  | nil =>
    cases a' with
    | nil => cases b <;> cases b' <;> simp_all [cmpR]
    | cons _ _ => simp at ha
  | cons x a ih =>
    cases a' with
    | nil => simp at ha
    | cons x' a' =>
      cases b with
      | nil => cases b' <;> simp_all [cmpR]
      | cons y b =>
        cases b' with
        | nil => simp at hb
        | cons y' b' =>
          simp only [List.map_cons, List.cons.injEq] at ha hb
          unfold cmpR
          rw [cmpV_congr ha.1 hb.1, ih ha.2 hb.2]
theorem cmpR_le_trans {a b c : List TValue} (h1 : ¬ cmpR a b < 0) (h2 : ¬ cmpR b c < 0) : ¬ cmpR a c < 0 := by
  intro h3
  have s1 := cmpR_swap a b
  have s2 := cmpR_swap b c
  have s3 := cmpR_swap c a
  by_cases e1 : cmpR a b = 0
  · rw [cmpR_congr (cmpR_zero.1 e1) rfl] at h3; exact h2 h3
  · by_cases e2 : cmpR b c = 0
    · rw [← cmpR_congr rfl (cmpR_zero.1 e2)] at h3; exact h1 h3
    · have := cmpR_trans (show cmpR c b < 0 by omega) (show cmpR b a < 0 by omega)
      omega
def OrdE (l : List TEntry) : Prop := l.Pairwise fun x y => cmpR x.f0 y.f0 < 0
theorem bvF_ord : ∀ (l : List TEntry) (p : Option TEntry), bvF p l = true ↔ (∀ e ∈ l, okE e = true ∧ e.f1 ≠ 0) ∧ OrdE l ∧ ∀ q, p = some q → ∀ x ∈ l, cmpR q.f0 x.f0 < 0
  | [], p => by
    constructor
    · intro _; exact ⟨fun e he => (by cases he), List.Pairwise.nil, fun _ _ x hx => (by cases hx)⟩
    · intro _; cases p <;> rfl
  | y :: l, p => by
    have h1 : bvF p (y :: l) = true ↔ (okE y = true ∧ y.f1 ≠ 0) ∧ (∀ q, p = some q → cmpR q.f0 y.f0 < 0) ∧ bvF (some y) l = true := by
      cases p with
      | none => simp [bvF]
      | some p =>
        simp only [bvF, Bool.and_eq_true, decide_eq_true_eq, Bool.not_eq_true', decide_eq_false_iff_not, Option.some.injEq, forall_eq']
        exact ⟨fun h => ⟨h.1.1, h.1.2, h.2⟩, fun h => ⟨⟨h.1, h.2.1⟩, h.2.2⟩⟩
    rw [h1, bvF_ord l (some y)]
    constructor
    · rintro ⟨h2, h3, h4, h5, h6⟩
      refine ⟨fun e he => ?_, List.Pairwise.cons (fun x hx => h6 y rfl x hx) h5, fun q hq x hx => ?_⟩
      · rcases List.mem_cons.1 he with rfl | he
        · exact h2
        · exact h4 e he
      · rcases List.mem_cons.1 hx with rfl | hx
        · exact h3 q hq
        · exact cmpR_trans (h3 q hq) (h6 y rfl x hx)
    · rintro ⟨h2, h3, h4⟩
      have h5 := List.pairwise_cons.1 h3
      exact ⟨h2 y (List.mem_cons_self ..), fun q hq => h4 q hq y (List.mem_cons_self ..), fun e he => h2 e (List.mem_cons_of_mem _ he), h5.2, fun q hq x hx => by cases hq; exact h5.1 x hx⟩
theorem bagV_iff {l : List TEntry} : bagV l = true ↔ (∀ e ∈ l, okE e = true ∧ e.f1 ≠ 0) ∧ OrdE l ∧ l.length ≤ 4096 := by
  unfold bagV
  rw [Bool.and_eq_true, decide_eq_true_eq, bvF_ord]
  exact ⟨fun h => ⟨h.1.1, h.1.2.1, h.2⟩, fun h => ⟨⟨h.1, h.2.1, fun q hq => by cases hq⟩, h.2.2⟩⟩
theorem bagV_filter {l : List TEntry} (p : TEntry → Bool) (h : bagV l = true) : bagV (l.filter p) = true := by
  rw [bagV_iff] at h ⊢
  exact ⟨fun e he => h.1 e (List.mem_filter.1 he).1, h.2.1.filter _, Nat.le_trans (List.length_filter_le _ _) h.2.2⟩
theorem okE_rng {e : TEntry} (h : okE e = true) : okRow e.f0 = true ∧ -262144 ≤ e.f1 ∧ e.f1 ≤ 262144 := by
  unfold okE at h
  rw [Bool.and_eq_true, decide_eq_true_eq] at h
  exact h
theorem bagV_fin {l : List TEntry} (h : bagV l = true) : Fin l := by
  rw [bagV_iff] at h
  exact ⟨by omega, fun e he => by have := okRow_len (okE_rng (h.1 e he).1).1; omega⟩
end Go.Proofs.YtjhnpaenhdbhpacV
set_option linter.unusedVariables false
set_option linter.unusedSimpArgs false
namespace Go.Proofs.YtjhnpaenhdbhpacV
open Go Go.RowKit
def cnt : List TEntry → List TValue → Int
  | [], _ => 0
  | e :: l, r => (if e.f0 = r then e.f1 else 0) + cnt l r
def okRws (l : List TEntry) : Prop := ∀ e ∈ l, okRow e.f0 = true
def nzE (l : List TEntry) : Prop := ∀ e ∈ l, e.f1 ≠ 0
def bndE (B : Int) (l : List TEntry) : Prop := ∀ e ∈ l, -B ≤ e.f1 ∧ e.f1 ≤ B
def NF (l : List TEntry) : Prop := okRws l ∧ nzE l ∧ OrdE l
theorem cnt_nil (r : List TValue) : cnt [] r = 0 := rfl
theorem cnt_cons (e : TEntry) (l : List TEntry) (r : List TValue) : cnt (e :: l) r = (if e.f0 = r then e.f1 else 0) + cnt l r := by
  rw [cnt]
theorem cnt_append : ∀ (a b : List TEntry) (r : List TValue), cnt (a ++ b) r = cnt a r + cnt b r
  | [], b, r => by rw [List.nil_append, cnt_nil]; omega
  | e :: a, b, r => by rw [List.cons_append, cnt_cons, cnt_cons, cnt_append a b r]; omega
theorem cnt_none {l : List TEntry} {r : List TValue} (h : ∀ e ∈ l, e.f0 ≠ r) : cnt l r = 0 := by
  induction l with
  | nil => rfl
  | cons e l ih => rw [cnt_cons, if_neg (h e (List.mem_cons_self ..)), ih (fun x hx => h x (List.mem_cons_of_mem _ hx))]; rfl
theorem OrdE.head {x : TEntry} {l : List TEntry} (h : OrdE (x :: l)) : ∀ e ∈ l, cmpR x.f0 e.f0 < 0 := (List.pairwise_cons.1 h).1
theorem OrdE.tail {x : TEntry} {l : List TEntry} (h : OrdE (x :: l)) : OrdE l := (List.pairwise_cons.1 h).2
theorem lt_ne {a b : List TValue} (h : cmpR a b < 0) : b ≠ a := by
  rintro rfl
  rw [cmpR_self] at h; omega
theorem cnt_head {x : TEntry} {l : List TEntry} (h : OrdE (x :: l)) : cnt (x :: l) x.f0 = x.f1 := by
  rw [cnt_cons, if_pos rfl, cnt_none (fun e he => lt_ne (h.head e he))]; omega
theorem cnt_below {l : List TEntry} {r : List TValue} (h : OrdE l) (hr : ∀ e ∈ l.head?, cmpR r e.f0 < 0) : cnt l r = 0 := by
  refine cnt_none (fun e he => ?_)
  cases l with
  | nil => cases he
  | cons x l =>
    have h0 := hr x (by simp)
    rcases List.mem_cons.1 he with rfl | he
    · exact lt_ne h0
    · exact lt_ne (cmpR_trans h0 (h.head e he))
theorem NF.tail {x : TEntry} {l : List TEntry} (h : NF (x :: l)) : NF l := ⟨fun e he => h.1 e (List.mem_cons_of_mem _ he), fun e he => h.2.1 e (List.mem_cons_of_mem _ he), h.2.2.tail⟩
theorem NF_ext : ∀ {a b : List TEntry}, NF a → NF b → (∀ r, okRow r = true → cnt a r = cnt b r) → a = b
  | [], [], _, _, _ => rfl
  | [], y :: b, _, hb, h => by
    have := h y.f0 (hb.1 y (List.mem_cons_self ..))
    rw [cnt_head hb.2.2, cnt_nil] at this
    exact absurd this.symm (hb.2.1 y (List.mem_cons_self ..))
  | x :: a, [], ha, _, h => by
    have := h x.f0 (ha.1 x (List.mem_cons_self ..))
    rw [cnt_head ha.2.2, cnt_nil] at this
    exact absurd this (ha.2.1 x (List.mem_cons_self ..))
  | x :: a, y :: b, ha, hb, h => by
    have okx := ha.1 x (List.mem_cons_self ..)
    have oky := hb.1 y (List.mem_cons_self ..)
    have hx := h x.f0 okx
    have hy := h y.f0 oky
    rw [cnt_head ha.2.2] at hx
    rw [cnt_head hb.2.2] at hy
    have sw := cmpR_swap x.f0 y.f0
    have e0 : cmpR x.f0 y.f0 = 0 := by
      by_cases h1 : cmpR x.f0 y.f0 < 0
      · rw [cnt_below hb.2.2 (by simpa using h1)] at hx
        exact absurd hx (ha.2.1 x (List.mem_cons_self ..))
      · by_cases h2 : cmpR y.f0 x.f0 < 0
        · rw [cnt_below ha.2.2 (by simpa using h2)] at hy
          exact absurd hy.symm (hb.2.1 y (List.mem_cons_self ..))
        · omega
    have er := (cmpR_zero_ok okx oky).1 e0
    have ef : x.f1 = y.f1 := by rw [hx, er, cnt_head hb.2.2]
    have exy : x = y := by
      cases x; cases y; simp only at er ef; rw [er, ef]
    subst exy
    rw [NF_ext ha.tail hb.tail (fun r hr => by have := h r hr; rw [cnt_cons, cnt_cons] at this; omega)]
def mergeF : Nat → List TEntry → List TEntry → List TEntry
  | 0, _, _ => []
  | _ + 1, [], b => b
  | _ + 1, x :: a, [] => x :: a
  | n + 1, x :: a, y :: b => if cmpR x.f0 y.f0 < 0 then x :: mergeF n a (y :: b) else if 0 < cmpR x.f0 y.f0 then y :: mergeF n (x :: a) b else if x.f1 + y.f1 ≠ 0 then ⟨x.f0, x.f1 + y.f1⟩ :: mergeF n a b else mergeF n a b
theorem mergeF_cons (n : Nat) (x : TEntry) (a : List TEntry) (y : TEntry) (b : List TEntry) : mergeF (n + 1) (x :: a) (y :: b) = if cmpR x.f0 y.f0 < 0 then x :: mergeF n a (y :: b) else if 0 < cmpR x.f0 y.f0 then y :: mergeF n (x :: a) b else if x.f1 + y.f1 ≠ 0 then ⟨x.f0, x.f1 + y.f1⟩ :: mergeF n a b else mergeF n a b := rfl
def mergeS (a b : List TEntry) : List TEntry := mergeF (a.length + b.length + 1) a b
theorem mergeF_more : ∀ (n m : Nat) (a b : List TEntry), a.length + b.length < n → a.length + b.length < m → mergeF n a b = mergeF m a b
  | 0, _, _, _, h, _ => by omega
  | _, 0, _, _, _, h => by omega
  | _ + 1, _ + 1, [], _, _, _ => rfl
  | _ + 1, _ + 1, _ :: _, [], _, _ => rfl
  | n + 1, m + 1, x :: a, y :: b, h, h' => by
    simp only [List.length_cons] at h h'
    unfold mergeF
    rw [mergeF_more n m a (y :: b) (by simp; omega) (by simp; omega), mergeF_more n m (x :: a) b (by simp; omega) (by simp; omega), mergeF_more n m a b (by omega) (by omega)]
theorem mergeS_nil (b : List TEntry) : mergeS [] b = b := rfl
theorem mergeS_nil' (a : List TEntry) : mergeS a [] = a := by cases a <;> rfl
theorem mergeS_cons (x : TEntry) (a : List TEntry) (y : TEntry) (b : List TEntry) : mergeS (x :: a) (y :: b) = if cmpR x.f0 y.f0 < 0 then x :: mergeS a (y :: b) else if 0 < cmpR x.f0 y.f0 then y :: mergeS (x :: a) b else if x.f1 + y.f1 ≠ 0 then ⟨x.f0, x.f1 + y.f1⟩ :: mergeS a b else mergeS a b := by
  unfold mergeS
  rw [mergeF_cons]
  simp only [List.length_cons]
  rw [mergeF_more (a.length + 1 + (b.length + 1)) (a.length + (b.length + 1) + 1) a (y :: b) (by simp) (by simp), mergeF_more (a.length + 1 + (b.length + 1)) (a.length + 1 + b.length + 1) (x :: a) b (by simp) (by simp), mergeF_more (a.length + 1 + (b.length + 1)) (a.length + b.length + 1) a b (by omega) (by omega)]
theorem merge_ind {P : List TEntry → List TEntry → Prop} (h1 : ∀ b, P [] b) (h2 : ∀ a, P a []) (h3 : ∀ x a y b, P a (y :: b) → P (x :: a) b → P a b → P (x :: a) (y :: b)) : ∀ a b, P a b := by
  intro a
  induction a with
  | nil => exact h1
  | cons x a iha =>
    intro b
    induction b with
    | nil => exact h2 _
    | cons y b ihb => exact h3 x a y b (iha _) ihb (iha _)
theorem mergeS_row {a b : List TEntry} : ∀ e ∈ mergeS a b, (∃ x ∈ a, e.f0 = x.f0) ∨ ∃ y ∈ b, e.f0 = y.f0 := by
  refine merge_ind (P := fun a b => ∀ e ∈ mergeS a b, (∃ x ∈ a, e.f0 = x.f0) ∨ ∃ y ∈ b, e.f0 = y.f0) ?_ ?_ ?_ a b
  · intro b e he; exact Or.inr ⟨e, he, rfl⟩
  · intro a e he; rw [mergeS_nil'] at he; exact Or.inl ⟨e, he, rfl⟩
  · intro x a y b i1 i2 i3 e he
    rw [mergeS_cons] at he
    have lift1 : ((∃ z ∈ a, e.f0 = z.f0) ∨ ∃ z ∈ y :: b, e.f0 = z.f0) → (∃ z ∈ x :: a, e.f0 = z.f0) ∨ ∃ z ∈ y :: b, e.f0 = z.f0 := by
      rintro (⟨z, hz, q⟩ | h)
      · exact Or.inl ⟨z, List.mem_cons_of_mem _ hz, q⟩
      · exact Or.inr h
    have lift2 : ((∃ z ∈ x :: a, e.f0 = z.f0) ∨ ∃ z ∈ b, e.f0 = z.f0) → (∃ z ∈ x :: a, e.f0 = z.f0) ∨ ∃ z ∈ y :: b, e.f0 = z.f0 := by
      rintro (h | ⟨z, hz, q⟩)
      · exact Or.inl h
      · exact Or.inr ⟨z, List.mem_cons_of_mem _ hz, q⟩
    have lift3 : ((∃ z ∈ a, e.f0 = z.f0) ∨ ∃ z ∈ b, e.f0 = z.f0) → (∃ z ∈ x :: a, e.f0 = z.f0) ∨ ∃ z ∈ y :: b, e.f0 = z.f0 := by
      rintro (⟨z, hz, q⟩ | ⟨z, hz, q⟩)
      · exact Or.inl ⟨z, List.mem_cons_of_mem _ hz, q⟩
      · exact Or.inr ⟨z, List.mem_cons_of_mem _ hz, q⟩
    split at he
    · rcases List.mem_cons.1 he with rfl | he
      · exact Or.inl ⟨e, List.mem_cons_self .., rfl⟩
      · exact lift1 (i1 e he)
    · split at he
      · rcases List.mem_cons.1 he with rfl | he
        · exact Or.inr ⟨e, List.mem_cons_self .., rfl⟩
        · exact lift2 (i2 e he)
      · split at he
        · rcases List.mem_cons.1 he with rfl | he
          · exact Or.inl ⟨x, List.mem_cons_self .., rfl⟩
          · exact lift3 (i3 e he)
        · exact lift3 (i3 e he)
theorem mergeS_len (a b : List TEntry) : (mergeS a b).length ≤ a.length + b.length := by
  refine merge_ind (P := fun a b => (mergeS a b).length ≤ a.length + b.length) ?_ ?_ ?_ a b
  · intro b; rw [mergeS_nil]; simp
  · intro a; rw [mergeS_nil']; simp
  · intro x a y b i1 i2 i3
    rw [mergeS_cons]
    simp only [List.length_cons] at *
    split
    · simp only [List.length_cons]; omega
    · split
      · simp only [List.length_cons]; omega
      · split
        · simp only [List.length_cons]; omega
        · omega
theorem mergeS_bnd {A B : Int} (hA : 0 ≤ A) (hB : 0 ≤ B) (a b : List TEntry) : bndE A a → bndE B b → bndE (A + B) (mergeS a b) := by
  refine merge_ind (P := fun a b => bndE A a → bndE B b → bndE (A + B) (mergeS a b)) ?_ ?_ ?_ a b
  · intro b _ hb e he; rw [mergeS_nil] at he; have := hb e he; omega
  · intro a ha _ e he; rw [mergeS_nil'] at he; have := ha e he; omega
  · intro x a y b i1 i2 i3 ha hb e he
    have hx := ha x (List.mem_cons_self ..)
    have hy := hb y (List.mem_cons_self ..)
    have ha' : bndE A a := fun z hz => ha z (List.mem_cons_of_mem _ hz)
    have hb' : bndE B b := fun z hz => hb z (List.mem_cons_of_mem _ hz)
    rw [mergeS_cons] at he
    split at he
    · rcases List.mem_cons.1 he with rfl | he
      · omega
      · exact i1 ha' hb e he
    · split at he
      · rcases List.mem_cons.1 he with rfl | he
        · omega
        · exact i2 ha hb' e he
      · split at he
        · rcases List.mem_cons.1 he with rfl | he
          · simp only; omega
          · exact i3 ha' hb' e he
        · exact i3 ha' hb' e he
theorem mergeS_nf (a b : List TEntry) : NF a → NF b → NF (mergeS a b) ∧ ∀ r, okRow r = true → cnt (mergeS a b) r = cnt a r + cnt b r := by
  refine merge_ind (P := fun a b => NF a → NF b → NF (mergeS a b) ∧ ∀ r, okRow r = true → cnt (mergeS a b) r = cnt a r + cnt b r) ?_ ?_ ?_ a b
  · intro b _ hb; rw [mergeS_nil]; exact ⟨hb, fun r _ => by rw [cnt_nil]; omega⟩
  · intro a ha _; rw [mergeS_nil']; exact ⟨ha, fun r _ => by rw [cnt_nil]; omega⟩
  · intro x a y b i1 i2 i3 ha hb
    have okx := ha.1 x (List.mem_cons_self ..)
    have oky := hb.1 y (List.mem_cons_self ..)
    have nzx := ha.2.1 x (List.mem_cons_self ..)
    have nzy := hb.2.1 y (List.mem_cons_self ..)
    have sw := cmpR_swap x.f0 y.f0
    have cons : ∀ (z : TEntry) (l : List TEntry), okRow z.f0 = true → z.f1 ≠ 0 → NF l → (∀ e ∈ l, cmpR z.f0 e.f0 < 0) → NF (z :: l) := by
      intro z l h1 h2 h3 h4
      refine ⟨fun e he => ?_, fun e he => ?_, List.pairwise_cons.2 ⟨h4, h3.2.2⟩⟩
      · rcases List.mem_cons.1 he with rfl | he
        · exact h1
        · exact h3.1 e he
      · rcases List.mem_cons.1 he with rfl | he
        · exact h2
        · exact h3.2.1 e he
    rw [mergeS_cons]
    by_cases h1 : cmpR x.f0 y.f0 < 0
    · rw [if_pos h1]
      obtain ⟨j1, j2⟩ := i1 ha.tail hb
      refine ⟨cons x _ okx nzx j1 (fun e he => ?_), fun r hr => by rw [cnt_cons, j2 r hr, cnt_cons x a]; omega⟩
      rcases mergeS_row e he with ⟨z, hz, q⟩ | ⟨z, hz, q⟩
      · rw [q]; exact ha.2.2.head z hz
      · rw [q]
        rcases List.mem_cons.1 hz with rfl | hz
        · exact h1
        · exact cmpR_trans h1 (hb.2.2.head z hz)
    · rw [if_neg h1]
      by_cases h2 : 0 < cmpR x.f0 y.f0
      · rw [if_pos h2]
        obtain ⟨j1, j2⟩ := i2 ha hb.tail
        refine ⟨cons y _ oky nzy j1 (fun e he => ?_), fun r hr => by rw [cnt_cons, j2 r hr, cnt_cons y b]; omega⟩
        rcases mergeS_row e he with ⟨z, hz, q⟩ | ⟨z, hz, q⟩
        · rw [q]
          rcases List.mem_cons.1 hz with rfl | hz
          · omega
          · exact cmpR_trans (show cmpR y.f0 x.f0 < 0 by omega) (ha.2.2.head z hz)
        · rw [q]; exact hb.2.2.head z hz
      · rw [if_neg h2]
        obtain ⟨j1, j2⟩ := i3 ha.tail hb.tail
        have er := (cmpR_zero_ok okx oky).1 (by omega)
        have hc : ∀ r, okRow r = true → cnt (x :: a) r + cnt (y :: b) r = (if x.f0 = r then x.f1 + y.f1 else 0) + cnt (mergeS a b) r := by
          intro r hr
          rw [cnt_cons, cnt_cons, j2 r hr, ← er]
          split <;> omega
        by_cases h3 : x.f1 + y.f1 ≠ 0
        · rw [if_pos h3]
          refine ⟨cons _ _ okx h3 j1 (fun e he => ?_), fun r hr => by rw [hc r hr, cnt_cons]⟩
          rcases mergeS_row e he with ⟨z, hz, q⟩ | ⟨z, hz, q⟩
          · rw [q]; exact ha.2.2.head z hz
          · rw [q, er]; exact hb.2.2.head z hz
        · rw [if_neg h3]
          refine ⟨j1, fun r hr => ?_⟩
          rw [hc r hr]
          split <;> omega
def sumS : List TEntry → List TEntry
  | [] => []
  | e :: l => if e.f1 = 0 then sumS l else mergeS [e] (sumS l)
theorem NF_nil : NF [] := ⟨fun e he => (by cases he), fun e he => (by cases he), List.Pairwise.nil⟩
theorem NF_one {e : TEntry} (h1 : okRow e.f0 = true) (h2 : e.f1 ≠ 0) : NF [e] := ⟨by simpa [okRws] using h1, by simpa [nzE] using h2, List.pairwise_singleton _ _⟩
theorem sumS_nf : ∀ l : List TEntry, okRws l → NF (sumS l) ∧ ∀ r, okRow r = true → cnt (sumS l) r = cnt l r
  | [], _ => ⟨NF_nil, fun _ _ => rfl⟩
  | e :: l, h => by
    obtain ⟨h1, h2⟩ := sumS_nf l (fun x hx => h x (List.mem_cons_of_mem _ hx))
    unfold sumS
    by_cases h0 : e.f1 = 0
    · rw [if_pos h0]
      refine ⟨h1, fun r hr => ?_⟩
      rw [h2 r hr, cnt_cons]
      split <;> omega
    · rw [if_neg h0]
      obtain ⟨k1, k2⟩ := mergeS_nf [e] (sumS l) (NF_one (h e (List.mem_cons_self ..)) h0) h1
      refine ⟨k1, fun r hr => ?_⟩
      rw [k2 r hr, h2 r hr, cnt_cons, cnt_cons, cnt_nil]; omega
theorem sumS_len : ∀ l : List TEntry, (sumS l).length ≤ l.length
  | [] => Nat.le_refl _
  | e :: l => by
    unfold sumS
    have h := sumS_len l
    split
    · simp only [List.length_cons]; omega
    · have := mergeS_len [e] (sumS l)
      simp only [List.length_cons, List.length_nil] at *; omega
theorem sumS_bnd {B : Int} (hB : 0 ≤ B) : ∀ l : List TEntry, bndE B l → bndE (B * (l.length : Int)) (sumS l)
  | [], _ => fun e he => by cases he
  | e :: l, h => by
    have ih := sumS_bnd hB l (fun x hx => h x (List.mem_cons_of_mem _ hx))
    have hn : 0 ≤ B * (l.length : Int) := Int.mul_nonneg hB (by omega)
    have e1 : B * ((e :: l).length : Int) = B + B * (l.length : Int) := by rw [List.length_cons]; push_cast; rw [Int.mul_add]; omega
    rw [e1]
    unfold sumS
    split
    · intro x hx; have := ih x hx; omega
    · exact mergeS_bnd hB hn [e] (sumS l) (fun x hx => by rw [List.mem_singleton] at hx; subst hx; exact h x (List.mem_cons_self ..)) ih
end Go.Proofs.YtjhnpaenhdbhpacV
set_option linter.unusedVariables false
set_option linter.unusedSimpArgs false
namespace Go.Proofs.YtjhnpaenhdbhpacV
open Go Go.RowKit
theorem ref01_CompareRows_ev (xs ys : List TValue) (hx : xs.length ≤ 9223372036854775807) : Ev (fun k => erasureref01_CompareRows k xs ys) (cmpR xs ys) := by
  unfold erasureref01_CompareRows
  refine (loop_down (P := fun i => i ≤ ys.length → Ev (fun k => erasureref01_CompareRows.p1 k xs ys (i : Int)) (cmpR (xs.drop i) (ys.drop i))) xs.length ?_ ?_ 0 (by omega)) (by omega)
  · intro hy
    refine Ev.succ ?_
    simp only [erasureref01_CompareRows.p1, decide_eq_true_eq]
    rw [List.drop_length, nil_cmpR, List.length_drop]
    refine Ev.ite_neg (by omega) ?_
    by_cases h : xs.length < ys.length
    · exact Ev.ite_pos (by omega) (Ev.done (by rw [if_neg (by omega)]))
    · exact Ev.ite_neg (by omega) (Ev.ite_neg (by omega) (Ev.done (by rw [if_pos (by omega)])))
  · intro i hi ih hy
    refine Ev.succ ?_
    simp only [erasureref01_CompareRows.p1, decide_eq_true_eq, ref01_Compare_eq, Option.bind_some, bne_iff_ne, ne_eq, ite_not]
    refine Ev.ite_pos (by omega) ?_
    by_cases h : i < ys.length
    · refine Ev.ite_pos (by omega) (Ev.ite_pos (by omega) (Ev.ite_pos (by omega) ?_))
      rw [dV hi, dV h, wrn hi hx]
      unfold cmpR
      by_cases hc : cmpV (xs.getD (i : Int).toNat dValue) (ys.getD (i : Int).toNat dValue) = 0
      · rw [if_pos hc]; exact Ev.ite_pos hc (ih (by omega))
      · rw [if_neg hc]; exact Ev.ite_neg hc (Ev.now _)
    · rw [List.drop_eq_nil_of_le (show ys.length ≤ i by omega), cmpR_nil, List.length_drop]
      exact (Ev.ite_neg (by omega) (Ev.ite_neg (by omega) (Ev.ite_pos (by omega) (Ev.now (1 : Int))))).to (by rw [if_neg (by omega)])
theorem ref01_ValidRow_ev (l : List TValue) : Ev (fun k => erasureref01_ValidRow k l) (okRow l) := by
  unfold erasureref01_ValidRow okRow
  simp only [decide_eq_true_eq]
  by_cases hl : l.length ≤ 16
  · refine Ev.ite_neg (by omega) ?_
    rw [decide_eq_true hl, Bool.and_true]
    refine (loop_down (P := fun i => Ev (fun k => erasureref01_ValidRow.p1 k l (i : Int)) ((l.drop i).all okV)) l.length ?_ ?_ 0 (by omega))
    · refine Ev.succ ?_
      simp only [erasureref01_ValidRow.p1, decide_eq_true_eq]
      rw [List.drop_length]
      exact Ev.ite_neg (by omega) (Ev.now _)
    · intro i hi ih
      refine Ev.succ ?_
      simp only [erasureref01_ValidRow.p1, ref01_Valid_eq, Option.bind_some, decide_eq_true_eq]
      refine Ev.ite_pos (by omega) (Ev.ite_pos (by omega) ?_)
      rw [dV hi, wrn hi (by omega), List.all_cons]
      cases hc : okV (l.getD (i : Int).toNat dValue) with
      | true => exact Ev.ite_neg (by simp) ih
      | false => exact Ev.ite_pos rfl (Ev.now _)
  · rw [decide_eq_false hl, Bool.and_false]
    exact Ev.ite_pos (by omega) (Ev.now _)
theorem ref06_countOK_eq (k : Nat) (n : Int) : erasureref06_countOK k n = some (decide (-262144 ≤ n ∧ n ≤ 262144)) := by
  unfold erasureref06_countOK
  simp only [decide_eq_true_eq]
  by_cases h : n ≥ -262144
  · rw [if_pos h]; simp; omega
  · rw [if_neg h]; simp; omega
end Go.Proofs.YtjhnpaenhdbhpacV
set_option linter.unusedVariables false
set_option linter.unusedSimpArgs false
namespace Go.Proofs.YtjhnpaenhdbhpacV
open Go Go.RowKit
theorem drop_out {α : Type} {l : List α} {i : Nat} (h : ¬ i < l.length) : l.drop i = [] := List.drop_eq_nil_of_le (by omega)
theorem fin_at {l : List TEntry} (h : Fin l) {i : Nat} (hi : i < l.length) : (l.getD (i : Int).toNat dEntry).f0.length ≤ 9223372036854775807 := h.2 _ (getD_mem dEntry hi)
theorem ref06_merge_ev (a b : List TEntry) {A B : Int} (fa : Fin a) (ha : bndE A a) (hb : bndE B b) (hAB : 0 ≤ A ∧ 0 ≤ B ∧ A + B ≤ 4611686018427387904) (hl : a.length + b.length ≤ 1099511627776) : Ev (fun k => erasureref06_merge k a b) (mergeS a b) := by
  have key : ∀ n i j : Nat, i ≤ a.length → j ≤ b.length → (a.length - i) + (b.length - j) ≤ n → ∀ out : List TEntry, out.length ≤ i + j → Ev (fun k => erasureref06_merge.p1 k a b (i : Int) (j : Int) out) (out ++ mergeS (a.drop i) (b.drop j)) := by
    intro n
    induction n with
    | zero =>
      intro i j hi hj hn out ho
      refine Ev.succ ?_
      simp only [erasureref06_merge.p1, decide_eq_true_eq]
      rw [drop_out (l := a) (by omega), mergeS_nil, drop_out (l := b) (by omega), List.append_nil]
      exact Ev.ite_neg (by omega) (Ev.ite_neg (by omega) (Ev.now _))
    | succ n ih =>
      intro i j hi hj hn out ho
      have oneE : ∀ (x : TEntry), (out.length + [x].length ≤ maxLen ∧ (out.length + [x].length) * 32 ≤ 140737488355328) := by
        intro x; simp only [maxLen, List.length_singleton]; omega
      refine Ev.succ ?_
      simp only [erasureref06_merge.p1, decide_eq_true_eq, beq_iff_eq]
      by_cases h1 : i < a.length
      · rw [dE h1, wrn h1 (by omega)]
        refine Ev.ite_pos (by omega) (Ev.ite_neg (by omega) ?_)
        by_cases h2 : j < b.length
        · rw [dE h2, wrn h2 (by omega), mergeS_cons]
          refine Ev.ite_neg (by omega) (Ev.ite_pos (by omega) (Ev.ite_pos (by omega) (Ev.bind (ref01_CompareRows_ev _ _ (fin_at fa h1)) ?_)))
          by_cases h3 : cmpR (a.getD (i : Int).toNat dEntry).f0 (b.getD (j : Int).toNat dEntry).f0 < 0
          · rw [if_pos h3]
            refine Ev.ite_pos h3 (Ev.ite_pos (oneE _) ((ih (i + 1) j (by omega) hj (by omega) _ (by simp; omega)).to ?_))
            rw [dE h2, List.append_assoc]; rfl
          · rw [if_neg h3]
            refine Ev.ite_neg h3 ?_
            by_cases h4 : 0 < cmpR (a.getD (i : Int).toNat dEntry).f0 (b.getD (j : Int).toNat dEntry).f0
            · rw [if_pos h4]
              refine Ev.ite_pos h4 (Ev.ite_pos (oneE _) ((ih i (j + 1) hi (by omega) (by omega) _ (by simp; omega)).to ?_))
              rw [dE h1, List.append_assoc]; rfl
            · rw [if_neg h4]
              refine Ev.ite_neg h4 ?_
              have q1 := ha _ (getD_mem dEntry h1)
              have q2 := hb _ (getD_mem dEntry h2)
              rw [wr (n := (a.getD (i : Int).toNat dEntry).f1 + (b.getD (j : Int).toNat dEntry).f1) (by omega)]
              by_cases h5 : (a.getD (i : Int).toNat dEntry).f1 + (b.getD (j : Int).toNat dEntry).f1 ≠ 0
              · rw [if_pos h5]
                refine Ev.ite_pos (by simpa using h5) (Ev.ite_pos (oneE _) ((ih (i + 1) (j + 1) (by omega) (by omega) (by omega) _ (by simp; omega)).to ?_))
                rw [List.append_assoc]; rfl
              · rw [if_neg h5]
                exact Ev.ite_neg (by simpa using h5) (ih (i + 1) (j + 1) (by omega) (by omega) (by omega) _ (by omega))
        · rw [drop_out h2, mergeS_nil']
          refine Ev.ite_pos (by omega) (Ev.ite_pos (by omega) (Ev.ite_pos (by omega) (Ev.ite_pos (oneE _) ((ih (i + 1) j (by omega) hj (by omega) _ (by simp; omega)).to ?_))))
          rw [drop_out h2, mergeS_nil', List.append_assoc]; rfl
      · by_cases h2 : ¬ j < b.length
        · rw [drop_out h1, mergeS_nil, drop_out h2, List.append_nil]
          exact Ev.ite_neg (by omega) (Ev.ite_neg (by omega) (Ev.now _))
        have h2 : j < b.length := by omega
        rw [drop_out h1, mergeS_nil, dE h2, wrn h2 (by omega)]
        refine Ev.ite_neg (by omega) (Ev.ite_pos (by omega) (Ev.ite_pos (by omega) (Ev.ite_neg (by omega) (Ev.ite_pos (by omega) (Ev.ite_pos (by omega) (Ev.ite_pos (oneE _) ((ih i (j + 1) hi (by omega) (by omega) _ (by simp; omega)).to ?_)))))))
        rw [drop_out h1, mergeS_nil, List.append_assoc]; rfl
  unfold erasureref06_merge
  have := key (a.length + b.length) 0 0 (by omega) (by omega) (by omega) [] (by simp)
  simpa using this
theorem sum_split (a b : List TEntry) (ha : okRws a) (hb : okRws b) : mergeS (sumS a) (sumS b) = sumS (a ++ b) := by
  have hab : okRws (a ++ b) := fun e he => (List.mem_append.1 he).elim (ha e) (hb e)
  obtain ⟨a1, a2⟩ := sumS_nf a ha
  obtain ⟨b1, b2⟩ := sumS_nf b hb
  obtain ⟨c1, c2⟩ := sumS_nf (a ++ b) hab
  obtain ⟨m1, m2⟩ := mergeS_nf _ _ a1 b1
  exact NF_ext m1 c1 (fun r hr => by rw [m2 r hr, a2 r hr, b2 r hr, c2 r hr, cnt_append])
theorem nf_fin {l : List TEntry} (h : okRws l) (hl : l.length ≤ 1099511627776) : Fin l := ⟨by omega, fun e he => by have := okRow_len (h e he); omega⟩
theorem ref06_sort_ev {B : Int} (hB : 0 ≤ B) : ∀ (n : Nat) (l : List TEntry), l.length ≤ n → okRws l → bndE B l → B * (l.length : Int) ≤ 4611686018427387904 → l.length ≤ 1099511627776 → Ev (fun k => erasureref06_sort k l) (sumS l)
  | 0, l, hn, _, _, _, _ => by
    have : l = [] := List.length_eq_zero_iff.1 (by omega)
    subst this
    refine Ev.succ ?_
    simp only [erasureref06_sort]
    exact Ev.ite_pos rfl (Ev.now _)
  | n + 1, l, hn, ho, hb, hm, hl => by
    refine Ev.succ ?_
    simp only [erasureref06_sort, beq_iff_eq]
    by_cases h0 : l.length = 0
    · have : l = [] := List.length_eq_zero_iff.1 h0
      subst this
      exact Ev.ite_pos rfl (Ev.now _)
    refine Ev.ite_neg (by omega) ?_
    by_cases h1 : l.length = 1
    · obtain ⟨e, rfl⟩ := List.length_eq_one_iff.1 h1
      refine Ev.ite_pos rfl (Ev.ite_pos (by simp) ?_)
      by_cases h2 : e.f1 = 0
      · exact Ev.ite_pos h2 (Ev.done (by simp [sumS, h2]))
      · exact Ev.ite_neg h2 (Ev.done (by simp [sumS, h2, mergeS_nil']))
    refine Ev.ite_neg (by omega) ?_
    have hq : IntKind.i64.wrap ((l.length : Int).tdiv 2) = ((l.length / 2 : Nat) : Int) := by
      rw [show (l.length : Int).tdiv 2 = ((l.length / 2 : Nat) : Int) from rfl]
      exact wr (by omega)
    rw [hq]
    generalize hh : l.length / 2 = m
    have m1 : m < l.length := by omega
    have m0 : 0 < m := by omega
    have e1 : subL l (0 : Int) (m : Int) = l.take m := by simp [subL]
    have e2 : subL l (m : Int) (l.length : Int) = l.drop m := by simp [subL]
    rw [e1, e2]
    have o1 : okRws (l.take m) := fun e he => ho e (List.mem_of_mem_take he)
    have o2 : okRws (l.drop m) := fun e he => ho e (List.mem_of_mem_drop he)
    have b1 : bndE B (l.take m) := fun e he => hb e (List.mem_of_mem_take he)
    have b2 : bndE B (l.drop m) := fun e he => hb e (List.mem_of_mem_drop he)
    have l1 : (l.take m).length = m := by simp; omega
    have l2 : (l.drop m).length = l.length - m := by simp
    have s1 : B * ((l.take m).length : Int) + B * ((l.drop m).length : Int) = B * (l.length : Int) := by
      rw [← Int.mul_add, l1, l2]; congr 1; omega
    have p1 : 0 ≤ B * ((l.take m).length : Int) := Int.mul_nonneg hB (by omega)
    have p2 : 0 ≤ B * ((l.drop m).length : Int) := Int.mul_nonneg hB (by omega)
    refine Ev.ite_pos (by omega) (Ev.bind (ref06_sort_ev hB n _ (by omega) o1 b1 (by omega) (by omega)) (Ev.ite_pos (by omega) (Ev.bind (ref06_sort_ev hB n _ (by omega) o2 b2 (by omega) (by omega)) ?_)))
    have n1 := sumS_len (l.take m)
    have n2 := sumS_len (l.drop m)
    have := ref06_merge_ev (sumS (l.take m)) (sumS (l.drop m)) (nf_fin (sumS_nf _ o1).1.1 (by omega)) (sumS_bnd hB _ b1) (sumS_bnd hB _ b2) (by omega) (by omega)
    rw [sum_split _ _ o1 o2, List.take_append_drop] at this
    exact Ev.bind this (Ev.now _)
def okN (n : Int) : Bool := decide (-262144 ≤ n ∧ n ≤ 262144)
def fitS (l : List TEntry) : List TEntry × Int := if (l.length : Int) > 4096 then ([], 8) else if l.all (fun e => okN e.f1) then (l, 0) else ([], 9)
def normS (l : List TEntry) : List TEntry × Int := if l.all okE then fitS (sumS l) else ([], 1)
theorem ref06_fits_ev (l : List TEntry) : Ev (fun k => erasureref06_fits k l) (fitS l) := by
  unfold erasureref06_fits fitS
  simp only [decide_eq_true_eq]
  by_cases h0 : (l.length : Int) > 4096
  · rw [if_pos h0]; exact Ev.ite_pos h0 (Ev.now _)
  rw [if_neg h0]
  refine Ev.ite_neg h0 ?_
  refine (loop_down (P := fun i => Ev (fun k => erasureref06_fits.p1 k l (i : Int)) (if (l.drop i).all (fun e => okN e.f1) then (l, 0) else ([], 9))) l.length ?_ ?_ 0 (by omega))
  · refine Ev.succ ?_
    simp only [erasureref06_fits.p1, decide_eq_true_eq]
    exact Ev.ite_neg (by omega) (Ev.done (by simp))
  · intro i hi ih
    refine Ev.succ ?_
    simp only [erasureref06_fits.p1, decide_eq_true_eq, ref06_countOK_eq, Option.bind_some]
    rw [dE hi, wrn hi (by omega), List.all_cons]
    refine Ev.ite_pos (by omega) (Ev.ite_pos (by omega) ?_)
    unfold okN at *
    by_cases h : -262144 ≤ (l.getD (i : Int).toNat dEntry).f1 ∧ (l.getD (i : Int).toNat dEntry).f1 ≤ 262144
    · rw [decide_eq_true h]; exact Ev.ite_neg (by simp) (ih.to (by simp))
    · rw [decide_eq_false h]; exact Ev.ite_pos rfl (Ev.done (by simp))
theorem okE_and (e : TEntry) : okE e = (okRow e.f0 && okN e.f1) := rfl
theorem all_ok {l : List TEntry} (h : l.all okE = true) : okRws l ∧ bndE 262144 l := by
  rw [List.all_eq_true] at h
  exact ⟨fun e he => (okE_rng (h e he)).1, fun e he => (okE_rng (h e he)).2⟩
theorem ref06_Normalize_ev (l : List TEntry) (hl : l.length ≤ 1073741824) : Ev (fun k => erasureref06_Normalize k l) (normS l) := by
  unfold erasureref06_Normalize
  have key : ∀ i, i ≤ l.length → (l.all okE = true → True) → ((l.take i).all okE = true) → Ev (fun k => erasureref06_Normalize.p1 k l (i : Int)) (normS l) := by
    refine loop_down (P := fun i => (l.all okE = true → True) → ((l.take i).all okE = true) → Ev (fun k => erasureref06_Normalize.p1 k l (i : Int)) (normS l)) l.length ?_ ?_
    · intro _ h
      rw [List.take_length] at h
      refine Ev.succ ?_
      simp only [erasureref06_Normalize.p1, decide_eq_true_eq]
      obtain ⟨h1, h2⟩ := all_ok h
      refine Ev.ite_neg (by omega) (Ev.bind (ref06_sort_ev (B := 262144) (by omega) l.length l (by omega) h1 h2 (by omega) (by omega)) (Ev.bind (ref06_fits_ev _) (Ev.done ?_)))
      unfold normS
      rw [if_pos h]
    · intro i hi ih _ h
      refine Ev.succ ?_
      simp only [erasureref06_Normalize.p1, decide_eq_true_eq, ref06_countOK_eq, Option.bind_some]
      refine Ev.ite_pos (by omega) (Ev.ite_pos (by omega) (Ev.bind (ref01_ValidRow_ev _) ?_))
      rw [wrn hi (by omega)]
      have hbad : okE (l.getD (i : Int).toNat dEntry) = false → normS l = ([], 1) := by
        intro hb
        unfold normS
        rw [if_neg]
        intro ha
        rw [List.all_eq_true] at ha
        rw [ha _ (getD_mem dEntry hi)] at hb
        cases hb
      cases h1 : okRow (l.getD (i : Int).toNat dEntry).f0 with
      | false => exact Ev.ite_pos rfl (Ev.done (hbad (by rw [okE_and, h1]; rfl)).symm)
      | true =>
        refine Ev.ite_neg (by simp) ?_
        cases h2 : okN (l.getD (i : Int).toNat dEntry).f1 with
        | false =>
          refine Ev.ite_pos ?_ (Ev.done (hbad (by rw [okE_and, h2, Bool.and_false])).symm)
          unfold okN at h2; rw [h2]; rfl
        | true =>
          refine Ev.ite_neg ?_ (ih (fun _ => trivial) ?_)
          · unfold okN at h2; rw [h2]; simp
          · have : l.take (i + 1) = l.take i ++ [l.getD (i : Int).toNat dEntry] := by rw [List.take_succ_eq_append_getElem hi]; simp [hi]
            rw [this, List.all_append, h]
            simp only [List.all_cons, List.all_nil, okE_and, h1, h2]; rfl
  exact key 0 (by omega) (fun _ => trivial) (by simp)
theorem fitS_ok {l b : List TEntry} (h : NF l) (e : fitS l = (b, 0)) : b = l ∧ bagV l = true := by
  unfold fitS at e
  split at e
  · simp at e
  · rename_i h0
    split at e
    · rename_i h1
      refine ⟨by simpa using e.symm, bagV_iff.2 ⟨fun x hx => ⟨?_, h.2.1 x hx⟩, h.2.2, by omega⟩⟩
      rw [okE_and, h.1 x hx, List.all_eq_true.1 h1 x hx]; rfl
    · simp at e
theorem normS_ok {l : List TEntry} (h : (normS l).2 = 0) : (normS l).1 = sumS l ∧ bagV (sumS l) = true := by
  unfold normS at h ⊢
  split at h
  · rename_i ha
    rw [if_pos ha]
    have := fitS_ok (sumS_nf l (all_ok ha).1).1 (b := (fitS (sumS l)).1) (by rw [← h])
    exact this
  · simp at h
end Go.Proofs.YtjhnpaenhdbhpacV
set_option linter.unusedVariables false
set_option linter.unusedSimpArgs false
namespace Go.Proofs.YtjhnpaenhdbhpacV
open Go Go.RowKit
theorem ex_all {α : Type} {p : α → Nat → Prop} : ∀ l : List α, (∀ x ∈ l, ∃ K, ∀ k, K ≤ k → p x k) → ∃ K, ∀ k, K ≤ k → ∀ x ∈ l, p x k
  | [], _ => ⟨0, fun k _ x hx => by cases hx⟩
  | y :: l, h => by
    obtain ⟨K, hK⟩ := h y (List.mem_cons_self ..)
    obtain ⟨L, hL⟩ := ex_all l (fun x hx => h x (List.mem_cons_of_mem _ hx))
    refine ⟨max K L, fun k hk x hx => ?_⟩
    rcases List.mem_cons.1 hx with rfl | hx
    · exact hK k (by omega)
    · exact hL k (by omega) x hx
theorem EvU.nxt {α : Type} {n : Nat} {seen : List Nat} {A : Nat → List Nat → Option α} {B : Nat → List Nat → Nat → Option α} {r : α} (hA : (∀ i, i < n → i ∈ seen) → EvU (fun _ : List Nat => True) (fun ord k => A k ord) r)
    (hB : ∀ i, i < n → i ∉ seen → EvU (fun _ : List Nat => True) (fun ord k => B k ord i) r) : EvU (fun _ : List Nat => True) (fun ord k => nxtW n seen ord (A k) (B k)) r := by
  by_cases hr : remI n seen = []
  · obtain ⟨K, hK⟩ := hA (fun i hi => by
      by_cases h : i ∈ seen
      · exact h
      · have : i ∈ remI n seen := mem_remI.2 ⟨hi, h⟩
        rw [hr] at this; cases this)
    exact ⟨K, fun ord _ k hk => by show nxtW n seen ord (A k) (B k) = some r; unfold nxtW; rw [if_pos hr]; exact hK ord trivial k hk⟩
  · obtain ⟨K, hK⟩ := ex_all (p := fun i k => ∀ ord, B k ord i = some r) (remI n seen) (fun i hi => by
      obtain ⟨h1, h2⟩ := mem_remI.1 hi
      obtain ⟨K, hK⟩ := hB i h1 h2
      exact ⟨K, fun k hk ord => hK ord trivial k hk⟩)
    refine ⟨K, fun ord _ k hk => ?_⟩
    show nxtW n seen ord (A k) (B k) = some r
    unfold nxtW
    rw [if_neg hr]
    refine hK k hk _ ?_ _
    unfold pickI
    have hl : 0 < (remI n seen).length := List.length_pos_iff.2 hr
    have hm := Nat.mod_lt (ord.headD 0) hl
    rw [List.getD_eq_getElem?_getD, List.getElem?_eq_getElem hm]
    exact List.getElem_mem hm
theorem EvU.allW {α : Type} {g : List Nat → Nat → Option α} {r : α} (h : EvU (fun _ : List Nat => True) g r) : Ev (fun k => allW fun ord => g ord k) r := by
  obtain ⟨K, hK⟩ := h
  exact ⟨K, fun k hk => allW_of fun ord => hK ord trivial k hk⟩
def keyB (r : List TValue) : ByteArray := byteL (encR r)
def keyM (L : List TEntry) : List (ByteArray × Int) := L.map fun e => (keyB e.f0, e.f1)
def putL : List TEntry → List TValue → Int → List TEntry
  | [], r, n => [⟨r, n⟩]
  | e :: L, r, n => if e.f0 = r then ⟨r, n⟩ :: L else e :: putL L r n
def dis (L : List TEntry) : Prop := L.Pairwise fun x y => x.f0 ≠ y.f0
theorem cnt_dis : ∀ {L : List TEntry}, dis L → ∀ {e : TEntry}, e ∈ L → cnt L e.f0 = e.f1
  | [], _, e, he => by cases he
  | x :: L, h, e, he => by
    have h1 := List.pairwise_cons.1 h
    rw [cnt_cons]
    rcases List.mem_cons.1 he with rfl | he'
    · rw [if_pos rfl, cnt_none (fun y hy q => h1.1 y hy q.symm)]; omega
    · rw [if_neg (h1.1 e he'), cnt_dis h1.2 he']; omega
theorem cnt_ex {L : List TEntry} {r : List TValue} (h : cnt L r ≠ 0) : ∃ e ∈ L, e.f0 = r := by
  apply Classical.byContradiction
  intro hn
  exact h (cnt_none (fun e he q => hn ⟨e, he, q⟩))
theorem putL_mem {r : List TValue} {n : Int} : ∀ {L : List TEntry} {e : TEntry}, e ∈ putL L r n → e.f0 = r ∨ e ∈ L
  | [], e, h => by rw [putL, List.mem_singleton] at h; subst h; exact Or.inl rfl
  | x :: L, e, h => by
    unfold putL at h
    split at h
    · rcases List.mem_cons.1 h with rfl | h
      · exact Or.inl rfl
      · exact Or.inr (List.mem_cons_of_mem _ h)
    · rcases List.mem_cons.1 h with rfl | h
      · exact Or.inr (List.mem_cons_self ..)
      · exact (putL_mem h).imp id (List.mem_cons_of_mem _)
theorem putL_dis {r : List TValue} {n : Int} : ∀ {L : List TEntry}, dis L → dis (putL L r n)
  | [], _ => List.pairwise_singleton _ _
  | x :: L, h => by
    have h1 := List.pairwise_cons.1 h
    unfold putL
    split
    · rename_i e
      exact List.pairwise_cons.2 ⟨fun y hy => by rw [← e]; exact h1.1 y hy, h1.2⟩
    · rename_i e
      refine List.pairwise_cons.2 ⟨fun y hy => ?_, putL_dis h1.2⟩
      rcases putL_mem hy with q | hy
      · rw [q]; exact e
      · exact h1.1 y hy
theorem putL_cnt {r : List TValue} {n : Int} (s : List TValue) : ∀ {L : List TEntry}, dis L → cnt (putL L r n) s = if r = s then n else cnt L s
  | [], _ => by
    rw [putL, cnt_cons, cnt_nil]
    split <;> simp
  | x :: L, h => by
    have h1 := List.pairwise_cons.1 h
    unfold putL
    split
    · rename_i e
      rw [cnt_cons]
      by_cases hs : r = s
      · subst hs
        rw [if_pos rfl, if_pos rfl, cnt_none (fun y hy q => h1.1 y hy (by rw [e, q]))]; show n + 0 = n; omega
      · rw [if_neg hs, if_neg hs, cnt_cons, if_neg (by rw [e]; exact hs)]
    · rename_i e
      rw [cnt_cons, putL_cnt s h1.2, cnt_cons]
      by_cases hs : r = s
      · subst hs
        rw [if_neg e, if_pos rfl, if_pos rfl]; omega
      · rw [if_neg hs, if_neg hs]
theorem putL_len {r : List TValue} {n : Int} : ∀ L : List TEntry, (putL L r n).length ≤ L.length + 1
  | [] => by simp [putL]
  | x :: L => by
    have := putL_len (r := r) (n := n) L
    unfold putL
    split <;> simp <;> omega
theorem put_keyM {r : List TValue} {n : Int} (hr : okRow r = true) : ∀ {L : List TEntry}, okRws L → putM (keyM L) (keyB r) n = keyM (putL L r n)
  | [], _ => rfl
  | x :: L, h => by
    have hx := h x (List.mem_cons_self ..)
    have ih := put_keyM hr (n := n) (L := L) (fun y hy => h y (List.mem_cons_of_mem _ hy))
    show putM ((keyB x.f0, x.f1) :: keyM L) (keyB r) n = _
    rw [putM, putL]
    by_cases e : x.f0 = r
    · rw [if_pos (by rw [e]), if_pos e]; rfl
    · rw [if_neg (show ¬ ((keyB x.f0, x.f1) : ByteArray × Int).1 = keyB r from fun q => e (encR_inj hx hr q)), if_neg e, ih]; rfl
theorem get_keyM {r : List TValue} (hr : okRow r = true) : ∀ {L : List TEntry}, okRws L → dis L → getM (keyM L) (keyB r) 0 = cnt L r
  | [], _, _ => rfl
  | x :: L, h, hd => by
    have hx := h x (List.mem_cons_self ..)
    have h1 := List.pairwise_cons.1 hd
    have ih := get_keyM hr (L := L) (fun y hy => h y (List.mem_cons_of_mem _ hy)) h1.2
    show getM ((keyB x.f0, x.f1) :: keyM L) (keyB r) 0 = _
    rw [getM, cnt_cons]
    by_cases e : x.f0 = r
    · rw [if_pos (by rw [e]), if_pos e, cnt_none (fun y hy q => h1.1 y hy (by rw [e, q]))]; omega
    · rw [if_neg (show ¬ ((keyB x.f0, x.f1) : ByteArray × Int).1 = keyB r from fun q => e (encR_inj hx hr q)), if_neg e, ih]; omega
theorem cnt_bnd {B : Int} (hB : 0 ≤ B) (r : List TValue) : ∀ {l : List TEntry}, bndE B l → -(B * (l.length : Int)) ≤ cnt l r ∧ cnt l r ≤ B * (l.length : Int)
  | [], _ => by rw [cnt_nil]; simp
  | e :: l, h => by
    have he := h e (List.mem_cons_self ..)
    have ih := cnt_bnd hB r (l := l) (fun x hx => h x (List.mem_cons_of_mem _ hx))
    have e1 : B * ((e :: l).length : Int) = B + B * (l.length : Int) := by rw [List.length_cons]; push_cast; rw [Int.mul_add]; omega
    rw [e1, cnt_cons]
    split <;> omega
def pickE (L : List TEntry) (i : Nat) : Option TEntry := if (L.getD i dEntry).f1 = 0 then none else some (L.getD i dEntry)
theorem perm_of {α : Type} : ∀ (s t : List α), s.Nodup → t.Nodup → (∀ e, e ∈ s ↔ e ∈ t) → s.Perm t
  | [], t, _, _, h => by
    cases t with
    | nil => exact List.Perm.refl _
    | cons y t => have := (h y).2 (List.mem_cons_self ..); cases this
  | x :: s, t, hs, ht, h => by
    obtain ⟨A, B, rfl⟩ := List.append_of_mem ((h x).1 (List.mem_cons_self ..))
    have h1 := List.nodup_cons.1 hs
    have hp : (A ++ x :: B).Perm (x :: (A ++ B)) := List.perm_middle
    have h2 := List.nodup_cons.1 (hp.nodup_iff.1 ht)
    refine ((perm_of s (A ++ B) h1.2 h2.2 (fun e => ?_)).cons x).trans hp.symm
    constructor
    · intro he
      have h3 : e ∈ x :: (A ++ B) := hp.mem_iff.1 ((h e).1 (List.mem_cons_of_mem _ he))
      rcases List.mem_cons.1 h3 with rfl | h3
      · exact absurd he h1.1
      · exact h3
    · intro he
      have h3 : e ∈ x :: s := (h e).2 (hp.mem_iff.2 (List.mem_cons_of_mem _ he))
      rcases List.mem_cons.1 h3 with rfl | h3
      · exact absurd he h2.1
      · exact h3
theorem NF.dis {l : List TEntry} (h : NF l) : dis l := h.2.2.imp (fun {a b} hab q => by rw [q, cmpR_self] at hab; omega)
theorem dis_nodup {l : List TEntry} (h : dis l) : l.Nodup := h.imp (fun {a b} hab q => hab (by rw [q]))
theorem entry_ext {x y : TEntry} (h0 : x.f0 = y.f0) (h1 : x.f1 = y.f1) : x = y := by cases x; cases y; simp_all
theorem sum_mem {l L : List TEntry} (hl : okRws l) (hL : okRws L) (hd : dis L) (hc : ∀ r, okRow r = true → cnt L r = cnt l r) (e : TEntry) : e ∈ sumS l ↔ e ∈ L ∧ e.f1 ≠ 0 := by
  obtain ⟨n1, n2⟩ := sumS_nf l hl
  constructor
  · intro he
    have hr := n1.1 e he
    have hz := n1.2.1 e he
    have c1 := cnt_dis n1.dis he
    rw [n2 _ hr, ← hc _ hr] at c1
    obtain ⟨x, hx, q⟩ := cnt_ex (L := L) (r := e.f0) (by rw [c1]; exact hz)
    have c2 := cnt_dis hd hx
    rw [q, c1] at c2
    rw [entry_ext q.symm c2]
    exact ⟨hx, by rw [← c2]; exact hz⟩
  · rintro ⟨he, hz⟩
    have hr := hL e he
    have c1 := cnt_dis hd he
    rw [hc _ hr, ← n2 _ hr] at c1
    obtain ⟨x, hx, q⟩ := cnt_ex (L := sumS l) (r := e.f0) (by rw [c1]; exact hz)
    have c2 := cnt_dis n1.dis hx
    rw [q, c1] at c2
    rw [entry_ext q.symm c2]
    exact hx
theorem out_facts {L : List TEntry} (hd : dis L) {seen : List Nat} (hn : seen.Nodup) (hs : ∀ i ∈ seen, i < L.length) : dis (seen.filterMap (pickE L)) ∧ ∀ e, e ∈ seen.filterMap (pickE L) → e ∈ L ∧ e.f1 ≠ 0 := by
  have hp : ∀ i e, pickE L i = some e → e = L.getD i dEntry ∧ e.f1 ≠ 0 := by
    intro i e h
    unfold pickE at h
    split at h
    · cases h
    · rename_i q; have := Option.some.inj h; subst this; exact ⟨rfl, q⟩
  have hm : ∀ i, i < L.length → L.getD i dEntry ∈ L := fun i hi => by simp [hi]
  constructor
  · have hpw : seen.Pairwise fun i j => i ≠ j ∧ i < L.length ∧ j < L.length := by
      have := List.Pairwise.and_mem.1 hn
      exact this.imp (fun {a b} h => ⟨h.2.2, hs a h.1, hs b h.2.1⟩)
    refine List.Pairwise.filterMap _ (fun i j hij x hx y hy => ?_) hpw
    obtain ⟨rfl, _⟩ := hp i x hx
    obtain ⟨rfl, _⟩ := hp j y hy
    obtain ⟨h1, h2, h3⟩ := hij
    have g : ∀ i (hi : i < L.length), L.getD i dEntry = L[i] := fun i hi => by rw [List.getD_eq_getElem?_getD, List.getElem?_eq_getElem hi]; rfl
    rw [g i h2, g j h3]
    have hpw := List.pairwise_iff_getElem.1 hd
    rcases Nat.lt_or_gt_of_ne h1 with h | h
    · exact hpw i j h2 h3 h
    · exact fun q => hpw j i h3 h2 h q.symm
  · intro e he
    obtain ⟨i, hi, h⟩ := List.mem_filterMap.1 he
    obtain ⟨rfl, hz⟩ := hp i e h
    exact ⟨hm i (hs i hi), hz⟩
theorem out_perm {l L : List TEntry} (hl : okRws l) (hL : okRws L) (hd : dis L) (hc : ∀ r, okRow r = true → cnt L r = cnt l r) {seen : List Nat} (hn : seen.Nodup) (hs : ∀ i ∈ seen, i < L.length) (hall : ∀ i, i < L.length → i ∈ seen) : (sumS l).Perm (seen.filterMap (pickE L)) := by
  obtain ⟨o1, o2⟩ := out_facts hd hn hs
  refine perm_of _ _ (dis_nodup (sumS_nf l hl).1.dis) (dis_nodup o1) (fun e => ?_)
  rw [sum_mem hl hL hd hc]
  constructor
  · rintro ⟨he, hz⟩
    obtain ⟨i, hi, rfl⟩ := List.mem_iff_getElem.1 he
    refine List.mem_filterMap.2 ⟨i, hall i hi, ?_⟩
    have g : L.getD i dEntry = L[i] := by rw [List.getD_eq_getElem?_getD, List.getElem?_eq_getElem hi]; rfl
    unfold pickE
    rw [g, if_neg hz]
  · exact o2 e
theorem any_perm {α : Type} (p : α → Bool) {a b : List α} (h : a.Perm b) : a.any p = b.any p := by
  rw [Bool.eq_iff_iff, List.any_eq_true, List.any_eq_true]
  exact ⟨fun ⟨x, hx, q⟩ => ⟨x, h.mem_iff.1 hx, q⟩, fun ⟨x, hx, q⟩ => ⟨x, h.mem_iff.2 hx, q⟩⟩
theorem sort_bag {l out : List TEntry} (hl : okRws l) (hp : (sumS l).Perm out) (ho : out.length ≤ 1099511627776) : sortC (fun k x y => bag_collect_1 k x y) out = some (sumS l) := by
  obtain ⟨n1, n2⟩ := sumS_nf l hl
  have hm : ∀ e ∈ out, e ∈ sumS l := fun e he => hp.mem_iff.2 he
  refine sortC_eq (fun x y k k' r hk h => bag_collect_1.mono k k' x y r hk h) ⟨⟨fun a b => cmpR a.f0 b.f0, fun x hx y hy => ?_, ⟨fun x _ => by rw [cmpR_self]; omega, fun x _ y _ z _ h1 h2 => cmpR_trans h1 h2, fun x _ y _ z _ h1 h2 => cmpR_le_trans h1 h2, fun x hx y hy h1 h2 => ?_⟩, hp, ?_, by omega⟩⟩
  · obtain ⟨K, hK⟩ := value_CompareRows_ev x.f0 y.f0 (by have := okRow_len (n1.1 x (hm x hx)); omega)
    have h1 : value_CompareRows K x.f0 y.f0 = some (cmpR x.f0 y.f0) := hK K (Nat.le_refl _)
    exact ⟨K, by unfold bag_collect_1; rw [h1]; rfl⟩
  · have s := cmpR_swap x.f0 y.f0
    have e := (cmpR_zero_ok (n1.1 x (hm x hx)) (n1.1 y (hm y hy))).1 (by omega)
    have c1 := cnt_dis n1.dis (hm x hx)
    have c2 := cnt_dis n1.dis (hm y hy)
    exact entry_ext e (by rw [← c1, ← c2, e])
  · refine n1.2.2.imp (fun {a b} hab => ?_)
    have s := cmpR_swap a.f0 b.f0
    show ¬ cmpR b.f0 a.f0 < 0
    omega
theorem nodup_len : ∀ (n : Nat) (l : List Nat), l.Nodup → (∀ i ∈ l, i < n) → l.length ≤ n
  | 0, l, _, h => by
    cases l with
    | nil => simp
    | cons x l => have := h x (List.mem_cons_self ..); omega
  | n + 1, l, hn, h => by
    by_cases hm : n ∈ l
    · obtain ⟨A, B, rfl⟩ := List.append_of_mem hm
      have hp : (A ++ n :: B).Perm (n :: (A ++ B)) := List.perm_middle
      have h2 := List.nodup_cons.1 (hp.nodup_iff.1 hn)
      have ih := nodup_len n (A ++ B) h2.2 (fun i hi => by
        have h3 := h i (hp.mem_iff.2 (List.mem_cons_of_mem _ hi))
        have h4 : i ≠ n := fun q => h2.1 (q ▸ hi)
        omega)
      have := hp.length_eq
      simp only [List.length_cons] at this
      omega
    · have ih := nodup_len n l hn (fun i hi => by
        have h3 := h i hi
        have h4 : i ≠ n := fun q => hm (q ▸ hi)
        omega)
      omega
theorem collect_loop {l L : List TEntry} (hl : okRws l) (hL : okRws L) (hd : dis L) (hc : ∀ r, okRow r = true → cnt L r = cnt l r) (hn : L.length ≤ 1000000000) : ∀ m : Nat, ∀ seen : List Nat, L.length ≤ seen.length + m → seen.Nodup → (∀ i ∈ seen, i < L.length) → seen.length ≤ L.length → ∀ cur : Option Nat,
    EvU (fun _ : List Nat => True) (fun ord k => bag_collect.p2 k ord ((seen.filterMap (pickE L)).any fun e => !okN e.f1) (seen.filterMap (pickE L)) seen cur (keyM L)) (fitS (sumS l)) := by
  have hlen : (keyM L).length = L.length := List.length_map ..
  have hget : ∀ i, i < L.length → (keyM L).getD i ((⟨#[]⟩ : ByteArray), (0 : Int)) = (keyB (L.getD i dEntry).f0, (L.getD i dEntry).f1) := by
    intro i hi
    unfold keyM
    rw [List.getD_eq_getElem?_getD, List.getElem?_map, List.getD_eq_getElem?_getD, List.getElem?_eq_getElem hi]; rfl
  have hfin : ∀ seen : List Nat, seen.Nodup → (∀ i ∈ seen, i < L.length) → seen.length ≤ L.length → (∀ i, i < L.length → i ∈ seen) →
      EvU (fun _ : List Nat => True) (fun _ _ => if (decide (((seen.filterMap (pickE L)).length : Int) > 4096)) = true then (some (([] : List TEntry), (8 : Int))) else (if ((seen.filterMap (pickE L)).any fun e => !okN e.f1) = true then (some (([] : List TEntry), (9 : Int))) else ((sortC (fun k x y => bag_collect_1 k x y) (seen.filterMap (pickE L))).bind fun y_17 => (some (y_17, (0 : Int)))))) (fitS (sumS l)) := by
    intro seen hnd hs hsl hall
    have hp := out_perm hl hL hd hc hnd hs hall
    have hol := List.length_filterMap_le (pickE L) seen
    rw [sort_bag hl hp (by omega), ← any_perm (fun e : TEntry => !okN e.f1) hp, ← hp.length_eq]
    refine EvU.done ?_ |>.congr (f := fun _ _ => some (fitS (sumS l))) (fun _ _ => ?_)
    · rfl
    · unfold fitS
      by_cases h1 : ((sumS l).length : Int) > 4096
      · rw [if_pos (decide_eq_true h1), if_pos h1]
      · rw [if_neg (by simpa using h1), if_neg h1]
        cases ha : (sumS l).all (fun e => okN e.f1) with
        | true =>
          rw [if_neg]
          · rfl
          · rw [List.any_eq_true]
            rintro ⟨e, he, q⟩
            rw [List.all_eq_true.1 ha e he] at q
            cases q
        | false =>
          rw [if_pos]
          · rfl
          · rw [List.all_eq_false] at ha
            obtain ⟨e, he, q⟩ := ha
            exact List.any_eq_true.2 ⟨e, he, by simpa using q⟩
  intro m
  induction m with
  | zero =>
    intro seen hm hnd hs hsl cur
    refine EvU.succ ?_
    simp only [bag_collect.p2, bag_collect.p3]
    rw [hlen]
    refine EvU.nxt (fun hall => hfin seen hnd hs hsl hall) (fun i hi his => ?_)
    exfalso
    have hx : (i :: seen).Nodup := List.nodup_cons.2 ⟨his, hnd⟩
    have := nodup_len L.length (i :: seen) hx (fun j hj => by
      rcases List.mem_cons.1 hj with rfl | hj
      · exact hi
      · exact hs j hj)
    simp only [List.length_cons] at this
    omega
  | succ m ih =>
    intro seen hm hnd hs hsl cur
    refine EvU.succ ?_
    simp only [bag_collect.p2, bag_collect.p3]
    rw [hlen]
    refine EvU.nxt (fun hall => hfin seen hnd hs hsl hall) (fun i hi his => ?_)
    have hnd' : (seen ++ [i]).Nodup := List.nodup_append.2 ⟨hnd, by simp, fun a ha b hb => by rw [List.mem_singleton] at hb; subst hb; exact fun q => his (q ▸ ha)⟩
    have hs' : ∀ j ∈ seen ++ [i], j < L.length := by
      intro j hj
      rcases List.mem_append.1 hj with hj | hj
      · exact hs j hj
      · rw [List.mem_singleton] at hj; subst hj; exact hi
    have hsl' : (seen ++ [i]).length ≤ L.length := nodup_len _ _ hnd' hs'
    have ih' := ih (seen ++ [i]) (by simp; omega) hnd' hs' hsl' (some i)
    simp only [List.filterMap_append, List.filterMap_cons, List.filterMap_nil] at ih'
    have hol := List.length_filterMap_le (pickE L) seen
    rw [hget i hi]
    simp only [beq_iff_eq]
    have hok := hL _ (show L.getD i dEntry ∈ L by simp [hi])
    by_cases hz : (L.getD i dEntry).f1 = 0
    · refine EvU.ite_pos hz ?_
      have hp : pickE L i = none := by unfold pickE; rw [if_pos hz]
      simp only [hp, List.append_nil] at ih'
      exact ih'
    · refine EvU.ite_neg hz (EvU.bind (DecodeRow_ev hok) (EvU.ite_pos (by simp only [maxLen, List.length_singleton]; omega) ?_))
      have hp : pickE L i = some (L.getD i dEntry) := by unfold pickE; rw [if_neg hz]
      simp only [hp, List.any_append, List.any_cons, List.any_nil, Bool.or_false] at ih'
      cases hov : (seen.filterMap (pickE L)).any fun e => !okN e.f1 with
      | true =>
        rw [hov] at ih'
        exact EvU.ite_pos rfl ih'
      | false =>
        rw [hov] at ih'
        refine EvU.ite_neg (by simp) ?_
        simp only [countFits_eq, Option.bind_some]
        exact ih'
theorem collect_ev {B : Int} (hB : 0 ≤ B) (l : List TEntry) (hl : okRws l) (hb : bndE B l) (hm : B * (l.length : Int) ≤ 4611686018427387904) (hn : l.length ≤ 1000000000) : Ev (fun k => bag_collect k l) (fitS (sumS l)) := by
  unfold bag_collect
  refine EvU.allW (g := fun ord k => bag_collect_w k ord l) ?_
  unfold bag_collect_w
  have key : ∀ i, i ≤ l.length → ∀ L : List TEntry, L.length ≤ i → okRws L → dis L → (∀ r, okRow r = true → cnt L r = cnt (l.take i) r) → EvU (fun _ : List Nat => True) (fun ord k => bag_collect.p1 k ord l (l.length : Int) (i : Int) (keyM L)) (fitS (sumS l)) := by
    refine loop_down (P := fun i => ∀ L : List TEntry, L.length ≤ i → okRws L → dis L → (∀ r, okRow r = true → cnt L r = cnt (l.take i) r) → EvU (fun _ : List Nat => True) (fun ord k => bag_collect.p1 k ord l (l.length : Int) (i : Int) (keyM L)) (fitS (sumS l))) l.length ?_ ?_
    · intro L hLl hL hd hc
      rw [List.take_length] at hc
      refine EvU.succ ?_
      simp only [bag_collect.p1, decide_eq_true_eq]
      refine EvU.ite_neg (by omega) ?_
      exact collect_loop hl hL hd hc (by omega) L.length [] (by simp) List.nodup_nil (fun i hi => by cases hi) (by simp) none
    · intro i hi ih L hLl hL hd hc
      refine EvU.succ ?_
      simp only [bag_collect.p1, decide_eq_true_eq]
      have hx := getD_mem dEntry hi
      have hr := hl _ hx
      have hrl := okRow_len hr
      have he := EncodeRow_ev (l.getD (i : Int).toNat dEntry).f0 (by omega)
      rw [map_cl (okRow_mem hr)] at he
      refine EvU.ite_pos (by omega) (EvU.ite_pos (by omega) (EvU.bind he ?_))
      have htk : l.take (i + 1) = l.take i ++ [l.getD (i : Int).toNat dEntry] := by rw [List.take_succ_eq_append_getElem hi]; simp [hi]
      have hx1 := hb _ hx
      have hbt := cnt_bnd hB (l.getD (i : Int).toNat dEntry).f0 (l := l.take i) (fun e he => hb e (List.mem_of_mem_take he))
      have hle : ((l.take i).length : Int) + 1 ≤ (l.length : Int) := by rw [List.length_take]; omega
      have hmul : B * (((l.take i).length : Int) + 1) ≤ B * (l.length : Int) := Int.mul_le_mul_of_nonneg_left hle hB
      rw [Int.mul_add, Int.mul_one] at hmul
      rw [show byteL (encR (l.getD (i : Int).toNat dEntry).f0) = keyB (l.getD (i : Int).toNat dEntry).f0 from rfl, get_keyM hr hL hd, hc _ hr, wr (n := cnt (l.take i) (l.getD (i : Int).toNat dEntry).f0 + (l.getD (i : Int).toNat dEntry).f1) (by omega), put_keyM hr hL, wrn hi (by omega)]
      refine ih _ (by have := putL_len (r := (l.getD (i : Int).toNat dEntry).f0) (n := cnt (l.take i) (l.getD (i : Int).toNat dEntry).f0 + (l.getD (i : Int).toNat dEntry).f1) L; omega) (fun e he => ?_) (putL_dis hd) (fun r hr' => ?_)
      · rcases putL_mem he with q | he
        · rw [q]; exact hr
        · exact hL e he
      · rw [putL_cnt r hd, htk, cnt_append, cnt_cons, cnt_nil]
        by_cases q : (l.getD (i : Int).toNat dEntry).f0 = r
        · rw [if_pos q, if_pos q, q]; omega
        · rw [if_neg q, if_neg q, hc r hr']; omega
  exact key 0 (by omega) [] (by simp) (fun e he => by cases he) List.Pairwise.nil (fun r _ => by simp)
end Go.Proofs.YtjhnpaenhdbhpacV
set_option linter.unusedVariables false
set_option linter.unusedSimpArgs false
namespace Go.Proofs.YtjhnpaenhdbhpacV
open Go Go.RowKit
def atV (row : List TValue) (c : Int) : TValue := if c < 0 then ⟨0, 0, ⟨#[]⟩⟩ else if c ≥ (row.length : Int) then ⟨0, 0, ⟨#[]⟩⟩ else clV (row.getD c.toNat dValue)
theorem cache_at_eq (k : Nat) (row : List TValue) (c : Int) : cache_at k row c = some (atV row c) := by
  unfold cache_at atV
  simp only [decide_eq_true_eq]
  by_cases h1 : c < 0
  · rw [if_pos h1, if_pos h1]
  rw [if_neg h1, if_neg h1]
  by_cases h2 : c ≥ (row.length : Int)
  · rw [if_pos h2, if_pos h2]
  rw [if_neg h2, if_neg h2, if_pos (by omega), value_Clean_eq]; rfl
theorem ref_at_eq (k : Nat) (row : List TValue) (c : Int) : erasureref30_at k row c = some (atV row c) := by
  unfold erasureref30_at atV
  simp only [decide_eq_true_eq]
  by_cases h1 : c < 0
  · rw [if_pos h1, if_pos h1]
  rw [if_neg h1, if_neg h1]
  by_cases h2 : c ≥ (row.length : Int)
  · rw [if_pos h2, if_pos h2]
  rw [if_neg h2, if_neg h2, if_pos (by omega), ref01_Clean_eq]; rfl
def selS (l : List TEntry) (c : Int) (v : TValue) : List TEntry := l.filter fun e => decide (atV e.f0 c = v)
theorem copied_ev (l : List TEntry) (hl : l.length ≤ 1099511627776) (hr : ∀ e ∈ l, e.f0.length ≤ 1099511627776) : Ev (fun k => cache_copied k l) l := by
  unfold cache_copied
  have key : ∀ i, i ≤ l.length → ∀ acc : List TEntry, acc.length = i → Ev (fun k => cache_copied.p1 k l (i : Int) acc) (acc ++ l.drop i) := by
    refine loop_down (P := fun i => ∀ acc : List TEntry, acc.length = i → Ev (fun k => cache_copied.p1 k l (i : Int) acc) (acc ++ l.drop i)) l.length ?_ ?_
    · intro acc _
      refine Ev.succ ?_
      simp only [cache_copied.p1, decide_eq_true_eq]
      rw [List.drop_length]
      exact Ev.ite_neg (by omega) (Ev.done (by simp))
    · intro i hi ih acc ha
      refine Ev.succ ?_
      simp only [cache_copied.p1, decide_eq_true_eq]
      have hr1 := hr _ (getD_mem dEntry hi)
      refine Ev.ite_pos (by omega) (Ev.ite_pos (by omega) (Ev.ite_pos (by simp only [maxLen]; omega) (Ev.ite_pos (by simp only [maxLen, List.length_singleton]; omega) ?_)))
      rw [dE hi, wrn hi (by omega)]
      exact (ih (acc ++ [l.getD (i : Int).toNat dEntry]) (by simp [ha])).to (by simp)
  simpa using key 0 (by omega) [] rfl
theorem sel_ev (l : List TEntry) (c : Int) (v : TValue) (hl : l.length ≤ 1099511627776) (hr : ∀ e ∈ l, e.f0.length ≤ 1099511627776) : Ev (fun k => cache_Select k l c v) (selS l c (clV v)) := by
  unfold cache_Select
  simp only [value_Clean_eq, Option.bind_some]
  have key : ∀ i, i ≤ l.length → ∀ acc : List TEntry, acc.length ≤ i → (∀ e ∈ acc, e.f0.length ≤ 1099511627776) → Ev (fun k => cache_Select.p1 k l c (i : Int) (clV v) acc) (acc ++ selS (l.drop i) c (clV v)) := by
    refine loop_down (P := fun i => ∀ acc : List TEntry, acc.length ≤ i → (∀ e ∈ acc, e.f0.length ≤ 1099511627776) → Ev (fun k => cache_Select.p1 k l c (i : Int) (clV v) acc) (acc ++ selS (l.drop i) c (clV v))) l.length ?_ ?_
    · intro acc ha hr0
      refine Ev.succ ?_
      simp only [cache_Select.p1, decide_eq_true_eq]
      rw [List.drop_length]
      refine Ev.ite_neg (by omega) ?_
      simp only [selS, List.filter_nil, List.append_nil]
      exact Ev.bind (copied_ev acc (by omega) hr0) (Ev.now _)
    · intro i hi ih acc ha hr0
      refine Ev.succ ?_
      simp only [cache_Select.p1, cache_at_eq, Option.bind_some, eqV_iff, decide_eq_true_eq]
      refine Ev.ite_pos (by omega) (Ev.ite_pos (by omega) ?_)
      rw [dE hi, wrn hi (by omega)]
      by_cases h : atV (l.getD (i : Int).toNat dEntry).f0 c = clV v
      · refine Ev.ite_pos h (Ev.ite_pos (by simp only [maxLen, List.length_singleton]; omega) ?_)
        exact (ih (acc ++ [l.getD (i : Int).toNat dEntry]) (by simp; omega) (by intro e he; rcases List.mem_append.1 he with he | he; exact hr0 e he; rw [List.mem_singleton] at he; subst he; exact hr _ (getD_mem _ hi))).to (by simp only [selS, List.filter_cons, h, decide_true, if_true, List.append_assoc, List.singleton_append])
      · exact Ev.ite_neg h ((ih acc (by omega) hr0).to (by simp only [selS, List.filter_cons, h, decide_false, Bool.false_eq_true, if_false]))
  exact key 0 (by omega) [] (by simp) (by simp)
theorem refSel_ev (l : List TEntry) (c : Int) (v : TValue) (hl : l.length ≤ 1099511627776) : Ev (fun k => erasureref30_Select k l c v) (selS l c (clV v)) := by
  unfold erasureref30_Select
  have key : ∀ i, i ≤ l.length → ∀ acc : List TEntry, acc.length ≤ i → Ev (fun k => erasureref30_Select.p1 k l c (i : Int) v acc) (acc ++ selS (l.drop i) c (clV v)) := by
    refine loop_down (P := fun i => ∀ acc : List TEntry, acc.length ≤ i → Ev (fun k => erasureref30_Select.p1 k l c (i : Int) v acc) (acc ++ selS (l.drop i) c (clV v))) l.length ?_ ?_
    · intro acc ha
      refine Ev.succ ?_
      simp only [erasureref30_Select.p1, decide_eq_true_eq]
      rw [List.drop_length]
      exact Ev.ite_neg (by omega) (Ev.done (by simp [selS]))
    · intro i hi ih acc ha
      refine Ev.succ ?_
      simp only [erasureref30_Select.p1, ref_at_eq, ref01_Clean_eq, Option.bind_some, eqV_iff, decide_eq_true_eq]
      refine Ev.ite_pos (by omega) (Ev.ite_pos (by omega) ?_)
      rw [dE hi, wrn hi (by omega)]
      by_cases h : atV (l.getD (i : Int).toNat dEntry).f0 c = clV v
      · refine Ev.ite_pos h (Ev.ite_pos (by simp only [maxLen, List.length_singleton]; omega) ?_)
        exact (ih (acc ++ [l.getD (i : Int).toNat dEntry]) (by simp; omega)).to (by simp only [selS, List.filter_cons, h, decide_true, if_true, List.append_assoc, List.singleton_append])
      · exact Ev.ite_neg h ((ih acc (by omega)).to (by simp only [selS, List.filter_cons, h, decide_false, Bool.false_eq_true, if_false]))
  exact key 0 (by omega) [] (by simp)
end Go.Proofs.YtjhnpaenhdbhpacV
set_option linter.unusedVariables false
set_option linter.unusedSimpArgs false
namespace Go.Proofs.YtjhnpaenhdbhpacV
open Go Go.RowKit
def negL (l : List TEntry) : List TEntry := l.map fun e => ⟨e.f0, -e.f1⟩
theorem negL_cnt (r : List TValue) : ∀ l : List TEntry, cnt (negL l) r = - cnt l r
  | [] => rfl
  | e :: l => by
    show cnt (⟨e.f0, -e.f1⟩ :: negL l) r = _
    rw [cnt_cons, cnt_cons, negL_cnt r l]
    by_cases h : e.f0 = r
    · rw [if_pos h, if_pos h]; show -e.f1 + _ = _; omega
    · rw [if_neg h, if_neg h]; omega
theorem negL_nf {l : List TEntry} (h : NF l) : NF (negL l) := by
  refine ⟨fun e he => ?_, fun e he => ?_, ?_⟩
  · obtain ⟨x, hx, rfl⟩ := List.mem_map.1 he; exact h.1 x hx
  · obtain ⟨x, hx, rfl⟩ := List.mem_map.1 he
    have := h.2.1 x hx
    show -x.f1 ≠ 0; omega
  · exact List.pairwise_map.2 h.2.2
theorem negL_ok {l : List TEntry} (h : okRws l) : okRws (negL l) := fun e he => by obtain ⟨x, hx, rfl⟩ := List.mem_map.1 he; exact h x hx
theorem okRws_app {a b : List TEntry} (ha : okRws a) (hb : okRws b) : okRws (a ++ b) := fun e he => (List.mem_append.1 he).elim (ha e) (hb e)
def subS (a b : List TEntry) : List TEntry := sumS (a ++ negL b)
theorem sub_neg {a b : List TEntry} (ha : okRws a) (hb : okRws b) : subS b a = negL (subS a b) := by
  obtain ⟨a1, a2⟩ := sumS_nf (a ++ negL b) (okRws_app ha (negL_ok hb))
  obtain ⟨b1, b2⟩ := sumS_nf (b ++ negL a) (okRws_app hb (negL_ok ha))
  refine NF_ext b1 (negL_nf a1) (fun r hr => ?_)
  unfold subS
  rw [negL_cnt, a2 r hr, b2 r hr, cnt_append, cnt_append, negL_cnt, negL_cnt]; omega
theorem bag_okRws {l : List TEntry} (h : bagV l = true) : okRws l ∧ bndE 262144 l ∧ NF l := by
  rw [bagV_iff] at h
  exact ⟨fun e he => (okE_rng (h.1 e he).1).1, fun e he => (okE_rng (h.1 e he).1).2, fun e he => (okE_rng (h.1 e he).1).1, fun e he => (h.1 e he).2, h.2.1⟩
theorem fit_neg (l : List TEntry) : (fitS (negL l)).2 = (fitS l).2 := by
  unfold fitS
  have hl : (negL l).length = l.length := List.length_map ..
  rw [hl]
  have ha : ((negL l).all fun e => okN e.f1) = l.all fun e => okN e.f1 := by
    unfold negL
    rw [List.all_map]
    congr 1
    funext e
    show okN (-e.f1) = okN e.f1
    unfold okN
    rw [decide_eq_decide]; omega
  rw [ha]
  split
  · rfl
  · split <;> rfl
theorem Clone_ev (l : List TEntry) (hl : l.length ≤ 1000000000) : Ev (fun k => slices_Clone_api_Entry k l) l := by
  refine ⟨0, fun k _ => ?_⟩
  show slices_Clone_api_Entry k l = some l
  unfold slices_Clone_api_Entry
  refine allW_of fun ord => ?_
  unfold slices_Clone_api_Entry_w slices_Clone_api_Entry.p1 nilW
  split
  · rename_i h
    rw [Bool.and_eq_true, List.isEmpty_iff] at h
    rw [h.1]
  · rw [if_pos (by simp only [maxLen, List.length_nil]; omega), List.nil_append]
theorem Subtract_ev (a b : List TEntry) (ha : bagV a = true) (hb : bagV b = true) : Ev (fun k => bag_Subtract k a b) (fitS (subS a b)) := by
  have fa := bagV_fin ha
  have fb := bagV_fin hb
  obtain ⟨a1, a2, _⟩ := bag_okRws ha
  obtain ⟨b1, b2, _⟩ := bag_okRws hb
  have la : a.length ≤ 4096 := (bagV_iff.1 ha).2.2
  have lb : b.length ≤ 4096 := (bagV_iff.1 hb).2.2
  have va := bag_Valid_ev a fa
  have vb := bag_Valid_ev b fb
  rw [ha] at va
  rw [hb] at vb
  unfold bag_Subtract
  refine Ev.bind va (Ev.ite_neg (by simp) (Ev.bind vb (Ev.ite_neg (by simp) (Ev.bind (Clone_ev a (by omega)) ?_))))
  have hall : okRws (a ++ negL b) := okRws_app a1 (negL_ok b1)
  have hbnd : bndE 262144 (a ++ negL b) := by
    intro e he
    rcases List.mem_append.1 he with he | he
    · exact a2 e he
    · obtain ⟨x, hx, rfl⟩ := List.mem_map.1 he
      have := b2 x hx
      show -262144 ≤ -x.f1 ∧ -x.f1 ≤ 262144
      omega
  have hlen : (a ++ negL b).length = a.length + b.length := by simp [negL]
  have key : ∀ i, i ≤ b.length → ∀ l : List TEntry, l ++ negL (b.drop i) = a ++ negL b → Ev (fun k => bag_Subtract.p1 k b (b.length : Int) (i : Int) l) (fitS (subS a b)) := by
    refine loop_down (P := fun i => ∀ l : List TEntry, l ++ negL (b.drop i) = a ++ negL b → Ev (fun k => bag_Subtract.p1 k b (b.length : Int) (i : Int) l) (fitS (subS a b))) b.length ?_ ?_
    · intro l h
      rw [List.drop_length] at h
      have h' : l = a ++ negL b := by simpa [negL] using h
      subst h'
      refine Ev.succ ?_
      simp only [bag_Subtract.p1, decide_eq_true_eq]
      exact Ev.ite_neg (by omega) (Ev.bind (collect_ev (B := 262144) (by omega) _ hall hbnd (by omega) (by omega)) (Ev.done rfl))
    · intro i hi ih l h
      refine Ev.succ ?_
      simp only [bag_Subtract.p1, decide_eq_true_eq]
      have hx := b2 _ (getD_mem dEntry hi)
      rw [dE hi] at h
      have h' : (l ++ [⟨(b.getD (i : Int).toNat dEntry).f0, -(b.getD (i : Int).toNat dEntry).f1⟩]) ++ negL (b.drop (i + 1)) = a ++ negL b := by rw [← h, List.append_assoc]; rfl
      have hl := congrArg List.length h'
      rw [hlen] at hl
      simp only [List.length_append, List.length_singleton] at hl
      rw [wr (n := 0 - (b.getD (i : Int).toNat dEntry).f1) (by omega), wrn hi (by omega), Int.zero_sub]
      exact Ev.ite_pos (by omega) (Ev.ite_pos (by omega) (Ev.ite_pos (by simp only [maxLen, List.length_singleton]; omega) (ih _ h')))
  exact key 0 (by omega) a (by rw [List.drop_zero])
end Go.Proofs.YtjhnpaenhdbhpacV
set_option linter.unusedVariables false
set_option linter.unusedSimpArgs false
namespace Go.Proofs.YtjhnpaenhdbhpacV
open Go Go.RowKit
def okD (n : Int) : Bool := decide (0 ≤ n ∧ n ≤ 1048576)
theorem inDays_eq (k : Nat) (n : Int) : cache_inDays k n = some (okD n) := by
  unfold cache_inDays okD
  simp only [decide_eq_true_eq]
  by_cases h : n ≥ 0
  · rw [if_pos h]; simp; omega
  · rw [if_neg h]; simp; omega
def ctF : Option TCached → List TCached → Bool
  | _, [] => true
  | none, x :: l => okV x.f0 && (bagV x.f1 && (okD x.f2 && ctF (some x) l))
  | some p, x :: l => okV x.f0 && (decide (cmpV p.f0 x.f0 < 0) && (bagV x.f1 && (okD x.f2 && ctF (some x) l)))
def cacheV (l : List TCached) : Bool := ctF none l && decide (l.length ≤ 16)
def prevC (l : List TCached) (i : Nat) : Option TCached := if i = 0 then none else some (l.getD ((i - 1 : Nat) : Int).toNat dCached)
theorem dC {l : List TCached} {i : Nat} (h : i < l.length) : l.drop i = l.getD (i : Int).toNat dCached :: l.drop (i + 1) := drop_cons _ h
def FinC (l : List TCached) : Prop := l.length ≤ 9223372036854775807 ∧ ∀ x ∈ l, Fin x.f1
theorem cache_Valid_ev (l : List TCached) (hl : FinC l) : Ev (fun k => cache_Valid k l) (cacheV l) := by
  unfold cache_Valid cacheV
  simp only [decide_eq_true_eq]
  by_cases hn : l.length ≤ 16
  · rw [decide_eq_true hn, Bool.and_true]
    refine Ev.ite_neg (by omega) ?_
    refine (loop_down (P := fun i => Ev (fun k => cache_Valid.p1 k l (i : Int)) (ctF (prevC l i) (l.drop i))) l.length ?_ ?_ 0 (by omega))
    · refine Ev.succ ?_
      simp only [cache_Valid.p1, decide_eq_true_eq]
      rw [List.drop_length]
      refine Ev.ite_neg (by omega) (Ev.done ?_)
      cases prevC l l.length <;> rfl
    · intro i hi ih
      have hp : prevC l (i + 1) = some (l.getD (i : Int).toNat dCached) := by simp [prevC]
      rw [hp] at ih
      refine Ev.succ ?_
      simp only [cache_Valid.p1, decide_eq_true_eq, value_Valid_eq, value_Compare_eq, inDays_eq, Option.bind_some]
      refine Ev.ite_pos (by omega) (Ev.ite_pos (by omega) ?_)
      rw [dC hi, wrn hi hl.1]
      have hf := hl.2 _ (getD_mem dCached hi)
      have tail : Ev (fun k => (bag_Valid k ((l.getD (i : Int).toNat dCached).f1)).bind fun y_18 => (if (!y_18) = true then (some false) else (if (!okD ((l.getD (i : Int).toNat dCached).f2)) = true then (some false) else (cache_Valid.p1 k l ((i + 1 : Nat) : Int)))))
          (bagV (l.getD (i : Int).toNat dCached).f1 && (okD (l.getD (i : Int).toNat dCached).f2 && ctF (some (l.getD (i : Int).toNat dCached)) (l.drop (i + 1)))) := by
        refine Ev.bind (bag_Valid_ev _ hf) ?_
        cases hb : bagV (l.getD (i : Int).toNat dCached).f1 with
        | false => exact Ev.ite_pos rfl (Ev.now _)
        | true =>
          refine Ev.ite_neg (by simp) ?_
          cases hd : okD (l.getD (i : Int).toNat dCached).f2 with
          | false => exact Ev.ite_pos rfl (Ev.now _)
          | true => exact Ev.ite_neg (by simp) ih
      cases hv : okV (l.getD (i : Int).toNat dCached).f0 with
      | false => refine Ev.ite_pos rfl (Ev.done ?_); unfold ctF; cases prevC l i <;> simp only [hv, Bool.false_and]
      | true =>
        refine Ev.ite_neg (by simp) ?_
        by_cases h0 : i = 0
        · subst h0
          refine Ev.ite_neg (by omega) (tail.to ?_)
          simp only [prevC, if_true, ctF, hv, Bool.true_and]
        · have hl1 := hl.1
          rw [wrp (by omega) (by omega)]
          refine Ev.ite_pos (by omega) (Ev.ite_pos (by omega) ?_)
          simp only [prevC, if_neg h0, ctF, hv, Bool.true_and]
          by_cases hc : cmpV (l.getD ((i - 1 : Nat) : Int).toNat dCached).f0 (l.getD (i : Int).toNat dCached).f0 < 0
          · rw [decide_eq_true hc, Bool.true_and]; exact Ev.ite_neg (by omega) tail
          · rw [decide_eq_false hc, Bool.false_and]; exact Ev.ite_pos (by omega) (Ev.now _)
  · rw [decide_eq_false hn, Bool.and_false]
    exact Ev.ite_pos (by omega) (Ev.now _)
end Go.Proofs.YtjhnpaenhdbhpacV
set_option linter.unusedVariables false
set_option linter.unusedSimpArgs false
namespace Go.Proofs.YtjhnpaenhdbhpacV
open Go Go.RowKit
theorem bvF_mem : ∀ (l : List TEntry) (p : Option TEntry), bvF p l = true → ∀ e ∈ l, okE e = true
  | [], _, _, e, he => by cases he
  | x :: l, p, h, e, he => by
    have h1 : okE x = true ∧ bvF (some x) l = true := by
      cases p <;> simp only [bvF, Bool.and_eq_true] at h
      · exact ⟨h.1.1, h.2⟩
      · exact ⟨h.1.1.1, h.2⟩
    rcases List.mem_cons.1 he with rfl | he
    · exact h1.1
    · exact bvF_mem l _ h1.2 e he
theorem bagV_mem {l : List TEntry} (h : bagV l = true) : ∀ e ∈ l, okE e = true := by
  simp only [bagV, Bool.and_eq_true] at h
  exact bvF_mem l none h.1
theorem bagV_len {l : List TEntry} (h : bagV l = true) : l.length ≤ 4096 := by
  simp only [bagV, Bool.and_eq_true, decide_eq_true_eq] at h
  exact h.2
theorem okE_len {e : TEntry} (h : okE e = true) : e.f0.length ≤ 16 := by
  simp only [okE, okRow, Bool.and_eq_true, decide_eq_true_eq] at h
  exact h.1.2
theorem ctF_mem : ∀ (l : List TCached) (p : Option TCached), ctF p l = true → ∀ x ∈ l, okV x.f0 = true ∧ bagV x.f1 = true ∧ okD x.f2 = true
  | [], _, _, x, hx => by cases hx
  | y :: l, p, h, x, hx => by
    have h1 : (okV y.f0 = true ∧ bagV y.f1 = true ∧ okD y.f2 = true) ∧ ctF (some y) l = true := by
      cases p <;> simp only [ctF, Bool.and_eq_true] at h
      · exact ⟨⟨h.1, h.2.1, h.2.2.1⟩, h.2.2.2⟩
      · exact ⟨⟨h.1, h.2.2.1, h.2.2.2.1⟩, h.2.2.2.2⟩
    rcases List.mem_cons.1 hx with rfl | hx
    · exact h1.1
    · exact ctF_mem l _ h1.2 x hx
theorem cacheV_mem {l : List TCached} (h : cacheV l = true) : ∀ x ∈ l, okV x.f0 = true ∧ bagV x.f1 = true ∧ okD x.f2 = true := by
  simp only [cacheV, Bool.and_eq_true] at h
  exact ctF_mem l none h.1
theorem cacheV_len {l : List TCached} (h : cacheV l = true) : l.length ≤ 16 := by
  simp only [cacheV, Bool.and_eq_true, decide_eq_true_eq] at h
  exact h.2
theorem copied_bag (l : List TEntry) (h : bagV l = true) : Ev (fun k => cache_copied k l) l :=
  copied_ev l (by have := bagV_len h; omega) (fun e he => by have := okE_len (bagV_mem h e he); omega)
theorem duplicate_ev (x : TCached) (h : bagV x.f1 = true) : Ev (fun k => cache_duplicate k x) x := by
  unfold cache_duplicate
  exact Ev.bind (copied_bag _ h) (Ev.now _)
def liveC (t d : Int) (x : TCached) : Bool := decide (x.f2 ≤ d ∧ d < x.f2 + t)
def expS (t : Int) (l : List TCached) (d : Int) : List TCached := if cacheV l && (okD t && okD d) then l.filter (liveC t d) else []
theorem okD_rng {n : Int} (h : okD n = true) : 0 ≤ n ∧ n ≤ 1048576 := of_decide_eq_true h
theorem Expire_ev (c : TCache) (l : List TCached) (d : Int) (hl : FinC l) : Ev (fun k => cache_Expire k c l d) (expS c.f3 l d) := by
  unfold cache_Expire expS
  simp only [inDays_eq, Option.bind_some]
  refine Ev.bind (cache_Valid_ev l hl) ?_
  cases hv : cacheV l with
  | false => exact Ev.ite_pos rfl (Ev.now _)
  | true =>
    refine Ev.ite_neg (by simp) ?_
    cases ht : okD c.f3 with
    | false => exact Ev.ite_pos rfl (Ev.now _)
    | true =>
      refine Ev.ite_neg (by simp) ?_
      cases hd : okD d with
      | false => exact Ev.ite_pos rfl (Ev.now _)
      | true =>
        refine Ev.ite_neg (by simp) ?_
        have hn := cacheV_len hv
        have ht' := okD_rng ht
        have key : ∀ i, i ≤ l.length → ∀ acc : List TCached, acc.length ≤ i → Ev (fun k => cache_Expire.p1 k l d (i : Int) c acc) (acc ++ (l.drop i).filter (liveC c.f3 d)) := by
          refine loop_down (P := fun i => ∀ acc : List TCached, acc.length ≤ i → Ev (fun k => cache_Expire.p1 k l d (i : Int) c acc) (acc ++ (l.drop i).filter (liveC c.f3 d))) l.length ?_ ?_
          · intro acc _
            refine Ev.succ ?_
            simp only [cache_Expire.p1, decide_eq_true_eq]
            rw [List.drop_length]
            exact Ev.ite_neg (by omega) (Ev.done (by simp))
          · intro i hi ih acc ha
            refine Ev.succ ?_
            simp only [cache_Expire.p1, decide_eq_true_eq]
            obtain ⟨hx1, hx2, hx3⟩ := cacheV_mem hv _ (getD_mem dCached hi)
            have hx3 := okD_rng hx3
            rw [dC hi, wrn hi (by omega), wr (n := (l.getD (i : Int).toNat dCached).f2 + c.f3) (by omega), List.filter_cons]
            refine Ev.ite_pos (by omega) (Ev.ite_pos (by omega) ?_)
            unfold liveC at *
            by_cases h1 : d ≥ (l.getD (i : Int).toNat dCached).f2
            · refine Ev.ite_pos h1 ?_
              by_cases h2 : d < (l.getD (i : Int).toNat dCached).f2 + c.f3
              · refine Ev.ite_pos h2 (Ev.bind (duplicate_ev _ hx2) (Ev.ite_pos (by simp only [maxLen, List.length_singleton]; omega) ?_))
                rw [if_pos (decide_eq_true ⟨h1, h2⟩)]
                exact (ih (acc ++ [l.getD (i : Int).toNat dCached]) (by simp; omega)).to (by simp only [List.append_assoc, List.singleton_append])
              · rw [if_neg (by simp only [decide_eq_true_eq]; omega)]
                exact Ev.ite_neg h2 (ih acc (by omega))
            · rw [if_neg (by simp only [decide_eq_true_eq]; omega)]
              exact Ev.ite_neg h1 (ih acc (by omega))
        exact key 0 (by omega) [] (by simp)
theorem usable_ev (c : TCache) (l : List TCached) (rows : List TEntry) (d : Int) (hl : FinC l) (hr : Fin rows) : Ev (fun k => cache_usable k c l rows d) (cacheV l && (bagV rows && (okD c.f3 && okD d))) := by
  unfold cache_usable
  simp only [inDays_eq, Option.bind_some]
  refine Ev.bind (cache_Valid_ev l hl) ?_
  cases hv : cacheV l with
  | false => exact Ev.ite_neg (by simp) (Ev.now _)
  | true =>
    refine Ev.ite_pos rfl (Ev.bind (bag_Valid_ev rows hr) ?_)
    cases hb : bagV rows with
    | false => exact Ev.ite_neg (by simp) (Ev.now _)
    | true =>
      refine Ev.ite_pos rfl ?_
      cases ht : okD c.f3 with
      | false => exact Ev.ite_neg (by simp) (Ev.now _)
      | true => exact Ev.ite_pos rfl (Ev.now _)
end Go.Proofs.YtjhnpaenhdbhpacV
set_option linter.unusedVariables false
set_option linter.unusedSimpArgs false
namespace Go.Proofs.YtjhnpaenhdbhpacV
open Go Go.RowKit
theorem ins_eq {α : Type} (out : List α) (z y : α) (i : Nat) (hi : i ≤ out.length) :
    (copyL (out ++ [z]) ((i + 1 : Nat) : Int) ((out ++ [z]).length : Int) (subL (out ++ [z]) (i : Int) ((out ++ [z]).length : Int))).set i y = out.take i ++ y :: out.drop i := by
  have hn : ((((out ++ [z]).length : Nat) : Int)).toNat = out.length + 1 := by simp
  unfold copyL subL
  rw [hn]
  simp only [Int.toNat_natCast]
  have e1 : (List.take (out.length + 1) (out ++ [z])) = out ++ [z] := List.take_of_length_le (by simp)
  have e2 : (out ++ [z]).drop i = out.drop i ++ [z] := List.drop_append_of_le_length hi
  have e3 : (out.drop i ++ [z]).take (out.length + 1 - (i + 1)) = out.drop i := by
    rw [List.take_append_of_le_length (by simp), List.take_of_length_le (by simp)]
  have e4 : (out ++ [z]).drop (i + 1 + min (out.drop i ++ [z]).length (out.length + 1 - (i + 1))) = [] := List.drop_eq_nil_of_le (by simp; omega)
  rw [e1, e2, e3, e4, List.append_nil]
  have e5 : (out ++ [z]).take (i + 1) = out.take i ++ [(out ++ [z]).getD i z] := by
    rw [List.take_add_one, List.take_append_of_le_length hi]
    congr 1
    rw [List.getD_eq_getElem?_getD, List.getElem?_eq_getElem (by simp; omega)]; rfl
  rw [e5, List.append_assoc, List.set_append_right _ _ (by simp; omega)]
  have e6 : i - (out.take i).length = 0 := by simp; omega
  rw [e6]; rfl
theorem ins_get {α : Type} (d : α) (out : List α) (y : α) (i : Nat) (hi : i ≤ out.length) : (out.take i ++ y :: out.drop i).getD i d = y := by
  rw [List.getD_eq_getElem?_getD, List.getElem?_append_right (by simp; omega)]
  have e6 : i - (out.take i).length = 0 := by simp; omega
  rw [e6]; rfl
def insC (w : TValue) (y : TCached) : List TCached → List TCached
  | [] => [y]
  | x :: l => if cmpV x.f0 w < 0 then x :: insC w y l else y :: x :: l
theorem sel_bag (rows : List TEntry) (c : Int) (w : TValue) (h : bagV rows = true) : (selS rows c w).length ≤ 4096 ∧ ∀ e ∈ selS rows c w, e.f0.length ≤ 16 :=
  ⟨Nat.le_trans (List.length_filter_le _ _) (bagV_len h), fun e he => okE_len (bagV_mem h e (List.mem_filter.1 he).1)⟩
theorem lookup_p3 (rows : List TEntry) (d : Int) (c : TCache) (out : List TCached) (w : TValue) (hb : bagV rows = true) (hw : okV w = true) (hl : out.length ≤ 16) : ∀ i, i ≤ out.length →
    Ev (fun k => cache_Lookup.p3 k rows d (i : Int) c out w) (out.take i ++ insC w ⟨w, selS rows c.f2 w, d⟩ (out.drop i), selS rows c.f2 w, 0) := by
  have hs := sel_bag rows c.f2 w hb
  have hsel : Ev (fun k => cache_Select k rows c.f2 w) (selS rows c.f2 w) := by
    have := sel_ev rows c.f2 w (by have := bagV_len hb; omega) (fun e he => by have := okE_len (bagV_mem hb e he); omega)
    rwa [show clV w = w from if_pos hw] at this
  have hcp : Ev (fun k => cache_copied k (selS rows c.f2 w)) (selS rows c.f2 w) := copied_ev _ (by omega) (fun e he => by have := hs.2 e he; omega)
  refine loop_down (P := fun i => Ev (fun k => cache_Lookup.p3 k rows d (i : Int) c out w) (out.take i ++ insC w ⟨w, selS rows c.f2 w, d⟩ (out.drop i), selS rows c.f2 w, 0)) out.length ?_ ?_
  · refine Ev.succ ?_
    simp only [cache_Lookup.p3, decide_eq_true_eq]
    have hw1 : IntKind.i64.wrap ((out.length : Int) + 1) = ((out.length + 1 : Nat) : Int) := by rw [wr (by omega)]; omega
    simp only [hw1]
    refine Ev.ite_neg (by omega) (Ev.ite_pos (by simp only [maxLen, List.length_singleton]; omega) (Ev.ite_pos (by simp only [List.length_append, List.length_singleton]; omega) (Ev.ite_pos (by simp only [List.length_append, List.length_singleton]; omega) (Ev.bind hsel (Ev.ite_pos (by simp only [List.length_append, List.length_singleton]; omega) ?_)))))
    have e := ins_eq out (TCached.mk (TValue.mk 0 0 (⟨#[]⟩ : ByteArray)) ([] : List TEntry) 0) ⟨w, selS rows c.f2 w, d⟩ out.length (Nat.le_refl _)
    simp only [Int.toNat_natCast]
    rw [e, ins_get _ _ _ _ (Nat.le_refl _)]
    refine Ev.bind hcp (Ev.done ?_)
    rw [List.drop_length]; rfl
  · intro i hi ih
    refine Ev.succ ?_
    simp only [cache_Lookup.p3, decide_eq_true_eq, value_Compare_eq, Option.bind_some]
    rw [dC hi]
    have hw1 : IntKind.i64.wrap ((i : Int) + 1) = ((i + 1 : Nat) : Int) := wrn hi (by omega)
    simp only [hw1]
    refine Ev.ite_pos (by omega) (Ev.ite_pos (by omega) ?_)
    unfold insC
    by_cases hc : cmpV (out.getD (i : Int).toNat dCached).f0 w < 0
    · rw [if_pos hc]
      refine Ev.ite_pos hc (ih.to ?_)
      have e5 : out.take (i + 1) = out.take i ++ [out.getD (i : Int).toNat dCached] := by
        rw [List.take_add_one]
        congr 1
        rw [Int.toNat_natCast, List.getD_eq_getElem?_getD, List.getElem?_eq_getElem hi]; rfl
      rw [e5, List.append_assoc]; rfl
    · rw [if_neg hc]
      refine Ev.ite_neg hc (Ev.ite_pos (by simp only [maxLen, List.length_singleton]; omega) (Ev.ite_pos (by simp only [List.length_append, List.length_singleton]; omega) (Ev.ite_pos (by simp only [List.length_append, List.length_singleton]; omega) (Ev.bind hsel (Ev.ite_pos (by simp only [List.length_append, List.length_singleton]; omega) ?_)))))
      have e := ins_eq out (TCached.mk (TValue.mk 0 0 (⟨#[]⟩ : ByteArray)) ([] : List TEntry) 0) ⟨w, selS rows c.f2 w, d⟩ i (by omega)
      simp only [Int.toNat_natCast]
      rw [e, ins_get _ _ _ _ (by omega)]
      refine Ev.bind hcp (Ev.done ?_)
      have h2 := dC hi
      rw [Int.toNat_natCast] at h2
      rw [← h2]
def oldestF (l : List TCached) : Nat → Nat → List TCached → Nat
  | b, _, [] => b
  | b, i, x :: r => oldestF l (if x.f2 < (l.getD b dCached).f2 then i else b) (i + 1) r
theorem oldestF_lt (l : List TCached) : ∀ (r : List TCached) (b i : Nat), b < l.length → i + r.length ≤ l.length → oldestF l b i r < l.length
  | [], b, i, hb, _ => hb
  | x :: r, b, i, hb, hi => by
    unfold oldestF
    simp only [List.length_cons] at hi
    refine oldestF_lt l r _ (i + 1) ?_ (by omega)
    split
    · omega
    · exact hb
def dropOld (l : List TCached) : List TCached := l.take (oldestF l 0 1 (l.drop 1)) ++ l.drop (oldestF l 0 1 (l.drop 1) + 1)
theorem dropOld_len {l : List TCached} (h : 0 < l.length) : (dropOld l).length = l.length - 1 := by
  have := oldestF_lt l (l.drop 1) 0 1 h (by simp; omega)
  unfold dropOld
  simp only [List.length_append, List.length_take, List.length_drop]
  omega
theorem lookup_p2 (rows : List TEntry) (d : Int) (c : TCache) (out : List TCached) (w : TValue) (hb : bagV rows = true) (hw : okV w = true) (hl : out.length ≤ 16) : ∀ i, i ≤ out.length → ∀ b, b < out.length →
    Ev (fun k => cache_Lookup.p2 k rows d (b : Int) (i : Int) c out w) (insC w ⟨w, selS rows c.f2 w, d⟩ (out.take (oldestF out b i (out.drop i)) ++ out.drop (oldestF out b i (out.drop i) + 1)), selS rows c.f2 w, 0) := by
  refine loop_down (P := fun i => ∀ b, b < out.length → Ev (fun k => cache_Lookup.p2 k rows d (b : Int) (i : Int) c out w) (insC w ⟨w, selS rows c.f2 w, d⟩ (out.take (oldestF out b i (out.drop i)) ++ out.drop (oldestF out b i (out.drop i) + 1)), selS rows c.f2 w, 0)) out.length ?_ ?_
  · intro b hbl
    refine Ev.succ ?_
    simp only [cache_Lookup.p2, decide_eq_true_eq]
    rw [List.drop_length]
    have hw1 : IntKind.i64.wrap ((b : Int) + 1) = ((b + 1 : Nat) : Int) := by rw [wr (by omega)]; omega
    have e1 : subL out (0 : Int) (b : Int) = out.take b := by simp [subL]
    have e2 : subL out ((b + 1 : Nat) : Int) ((out.length : Nat) : Int) = out.drop (b + 1) := by simp [subL]
    simp only [hw1, e1, e2]
    refine Ev.ite_neg (by omega) (Ev.ite_pos (by omega) (Ev.ite_pos (by omega) (Ev.ite_pos (by simp only [maxLen]; omega) ?_)))
    have := lookup_p3 rows d c (out.take b ++ out.drop (b + 1)) w hb hw (by simp; omega) 0 (by omega)
    simpa [oldestF] using this
  · intro i hi ih b hbl
    refine Ev.succ ?_
    simp only [cache_Lookup.p2, decide_eq_true_eq]
    refine Ev.ite_pos (by omega) (Ev.ite_pos (by omega) (Ev.ite_pos (by omega) ?_))
    have h2 := dC hi
    rw [wrn hi (by omega), h2]
    unfold oldestF
    by_cases hc : (out.getD (i : Int).toNat dCached).f2 < (out.getD (b : Int).toNat dCached).f2
    · refine Ev.ite_pos hc ?_
      have hc' : (out.getD (i : Int).toNat dCached).f2 < (out.getD b dCached).f2 := hc
      rw [if_pos hc']
      exact ih i hi
    · refine Ev.ite_neg hc ?_
      have hc' : ¬ (out.getD (i : Int).toNat dCached).f2 < (out.getD b dCached).f2 := hc
      rw [if_neg hc']
      exact ih b hbl
def lookF (rows : List TEntry) (d : Int) (c : TCache) (out : List TCached) (w : TValue) : List TCached → List TCached × List TEntry × Int
  | [] => (insC w ⟨w, selS rows c.f2 w, d⟩ (if 16 ≤ out.length then dropOld out else out), selS rows c.f2 w, 0)
  | x :: r => if x.f0 = w then (out, x.f1, 0) else lookF rows d c out w r
def lookS (c : TCache) (l : List TCached) (rows : List TEntry) (v : TValue) (d : Int) : List TCached × List TEntry × Int :=
  if cacheV l && (bagV rows && (okD c.f3 && okD d)) then lookF rows d c (expS c.f3 l d) (clV v) (expS c.f3 l d) else ([], [], 1)
theorem lookup_p1 (rows : List TEntry) (d : Int) (c : TCache) (out : List TCached) (w : TValue) (hb : bagV rows = true) (hw : okV w = true) (hl : out.length ≤ 16) (ho : ∀ x ∈ out, bagV x.f1 = true) : ∀ i, i ≤ out.length →
    Ev (fun k => cache_Lookup.p1 k rows d (i : Int) c out w) (lookF rows d c out w (out.drop i)) := by
  refine loop_down (P := fun i => Ev (fun k => cache_Lookup.p1 k rows d (i : Int) c out w) (lookF rows d c out w (out.drop i))) out.length ?_ ?_
  · refine Ev.succ ?_
    simp only [cache_Lookup.p1, decide_eq_true_eq]
    rw [List.drop_length]
    refine Ev.ite_neg (by omega) ?_
    unfold lookF
    by_cases h : 16 ≤ out.length
    · rw [if_pos h]
      exact Ev.ite_pos (by omega) (lookup_p2 rows d c out w hb hw hl 1 (by omega) 0 (by omega))
    · rw [if_neg h]
      refine Ev.ite_neg (by omega) ?_
      have := lookup_p3 rows d c out w hb hw hl 0 (by omega)
      simpa using this
  · intro i hi ih
    refine Ev.succ ?_
    simp only [cache_Lookup.p1, decide_eq_true_eq, eqV_iff]
    refine Ev.ite_pos (by omega) (Ev.ite_pos (by omega) ?_)
    have h2 := dC hi
    rw [wrn hi (by omega), h2]
    unfold lookF
    by_cases hc : (out.getD (i : Int).toNat dCached).f0 = w
    · rw [if_pos hc]; exact Ev.ite_pos hc (Ev.bind (copied_bag _ (ho _ (getD_mem _ hi))) (Ev.now _))
    · rw [if_neg hc]; exact Ev.ite_neg hc ih
theorem expS_mem {t d : Int} {l : List TCached} : ∀ x ∈ expS t l d, okV x.f0 = true ∧ bagV x.f1 = true ∧ okD x.f2 = true := by
  intro x hx
  unfold expS at hx
  split at hx
  · rename_i h
    simp only [Bool.and_eq_true] at h
    exact cacheV_mem h.1 x (List.mem_filter.1 hx).1
  · cases hx
theorem expS_len {t d : Int} {l : List TCached} : (expS t l d).length ≤ 16 := by
  unfold expS
  split
  · rename_i h
    simp only [Bool.and_eq_true] at h
    exact Nat.le_trans (List.length_filter_le _ _) (cacheV_len h.1)
  · simp
theorem Lookup_ev (c : TCache) (l : List TCached) (rows : List TEntry) (v : TValue) (d : Int) (hl : FinC l) (hr : Fin rows) : Ev (fun k => cache_Lookup k c l rows v d) (lookS c l rows v d) := by
  unfold cache_Lookup lookS
  refine Ev.bind (usable_ev c l rows d hl hr) ?_
  cases hu : cacheV l && (bagV rows && (okD c.f3 && okD d)) with
  | false => exact Ev.ite_pos rfl (Ev.now _)
  | true =>
    refine Ev.ite_neg (by simp) (Ev.bind (Expire_ev c l d hl) ?_)
    simp only [value_Clean_eq, Option.bind_some, if_true]
    simp only [Bool.and_eq_true] at hu
    exact lookup_p1 rows d c _ (clV v) hu.2.1 (okV_cl v) expS_len (fun x hx => (expS_mem x hx).2.1) 0 (by omega)
end Go.Proofs.YtjhnpaenhdbhpacV
set_option linter.unusedVariables false
set_option linter.unusedSimpArgs false
namespace Go.Proofs.YtjhnpaenhdbhpacV
open Go Go.RowKit
def Ord (l : List TCached) : Prop := l.Pairwise fun x y => cmpV x.f0 y.f0 < 0
theorem ctF_ord : ∀ (l : List TCached) (p : Option TCached), ctF p l = true → Ord l ∧ ∀ q, p = some q → ∀ x ∈ l, cmpV q.f0 x.f0 < 0
  | [], _, _ => ⟨List.Pairwise.nil, fun _ _ x hx => by cases hx⟩
  | y :: l, p, h => by
    have h1 : ctF (some y) l = true ∧ ∀ q, p = some q → cmpV q.f0 y.f0 < 0 := by
      cases p with
      | none => simp only [ctF, Bool.and_eq_true] at h; exact ⟨h.2.2.2, fun q e => by cases e⟩
      | some p => simp only [ctF, Bool.and_eq_true, decide_eq_true_eq] at h; exact ⟨h.2.2.2.2, fun q e => by cases e; exact h.2.1⟩
    obtain ⟨i1, i2⟩ := ctF_ord l (some y) h1.1
    refine ⟨List.Pairwise.cons (fun x hx => i2 y rfl x hx) i1, fun q hq x hx => ?_⟩
    rcases List.mem_cons.1 hx with rfl | hx
    · exact h1.2 q hq
    · exact cmpV_trans (h1.2 q hq) (i2 y rfl x hx)
theorem cacheV_ord {l : List TCached} (h : cacheV l = true) : Ord l := by
  simp only [cacheV, Bool.and_eq_true] at h
  exact (ctF_ord l none h.1).1
theorem insC_cons (w : TValue) (y x : TCached) (l : List TCached) : insC w y (x :: l) = if cmpV x.f0 w < 0 then x :: insC w y l else y :: x :: l := rfl
end Go.Proofs.YtjhnpaenhdbhpacV
set_option linter.unusedVariables false
set_option linter.unusedSimpArgs false
namespace Go.Proofs.YtjhnpaenhdbhpacV
open Go Go.RowKit
theorem ref22_SameRow_ev (a b : List TValue) (ha : a.length ≤ 9223372036854775807) : Ev (fun k => erasureref22_SameRow k a b) (decide (a = b)) := by
  unfold erasureref22_SameRow
  simp only [bne_iff_ne, ne_eq, ite_not]
  by_cases hl : a.length = b.length
  · refine Ev.ite_pos (by omega) ?_
    refine (loop_down (P := fun i => Ev (fun k => erasureref22_SameRow.p1 k a b (i : Int)) (decide (a.drop i = b.drop i))) a.length ?_ ?_ 0 (by omega))
    · refine Ev.succ ?_
      simp only [erasureref22_SameRow.p1, decide_eq_true_eq]
      rw [List.drop_length, List.drop_eq_nil_of_le (show b.length ≤ a.length by omega)]
      exact Ev.ite_neg (by omega) (Ev.done (by simp))
    · intro i hi ih
      refine Ev.succ ?_
      simp only [erasureref22_SameRow.p1, eqV_iff, decide_eq_true_eq, Bool.not_eq_true', decide_eq_false_iff_not]
      refine Ev.ite_pos (by omega) (Ev.ite_pos (by omega) (Ev.ite_pos (by omega) ?_))
      rw [dV hi, dV (show i < b.length by omega), wrn hi ha]
      by_cases h : a.getD (i : Int).toNat dValue = b.getD (i : Int).toNat dValue
      · exact Ev.ite_neg (fun e => e h) (ih.to (by rw [h]; simp))
      · exact Ev.ite_pos h (Ev.done (by rw [decide_eq_false]; intro e; exact h (List.cons.inj e).1))
  · refine Ev.ite_neg (by omega) (Ev.done ?_)
    rw [decide_eq_false (fun e => hl (by rw [e]))]
theorem E_ext {x y : TEntry} (h0 : x.f0 = y.f0) (h1 : x.f1 = y.f1) : x = y := by cases x; cases y; simp_all
instance : DecidableEq TEntry := fun x y => decidable_of_iff (x.f0 = y.f0 ∧ x.f1 = y.f1) ⟨fun h => E_ext h.1 h.2, fun h => by subst h; exact ⟨rfl, rfl⟩⟩
theorem ref22_SameBag_ev (a b : List TEntry) (ha : Fin a) : Ev (fun k => erasureref22_SameBag k a b) (decide (a = b)) := by
  unfold erasureref22_SameBag
  simp only [bne_iff_ne, ne_eq, ite_not]
  by_cases hl : a.length = b.length
  · refine Ev.ite_pos (by omega) ?_
    refine (loop_down (P := fun i => Ev (fun k => erasureref22_SameBag.p1 k a b (i : Int)) (decide (a.drop i = b.drop i))) a.length ?_ ?_ 0 (by omega))
    · refine Ev.succ ?_
      simp only [erasureref22_SameBag.p1, decide_eq_true_eq]
      rw [List.drop_length, List.drop_eq_nil_of_le (show b.length ≤ a.length by omega)]
      exact Ev.ite_neg (by omega) (Ev.done (by simp))
    · intro i hi ih
      refine Ev.succ ?_
      simp only [erasureref22_SameBag.p1, decide_eq_true_eq, Bool.not_eq_true', bne_iff_ne, ne_eq, ite_not]
      refine Ev.ite_pos (by omega) (Ev.ite_pos (by omega) (Ev.ite_pos (by omega) ?_))
      rw [dE hi, dE (show i < b.length by omega), wrn hi ha.1]
      refine Ev.bind (ref22_SameRow_ev _ _ (ha.2 _ (getD_mem _ hi))) ?_
      by_cases h0 : (a.getD (i : Int).toNat dEntry).f0 = (b.getD (i : Int).toNat dEntry).f0
      · rw [decide_eq_true h0]
        refine Ev.ite_neg (by simp) ?_
        by_cases h1 : (a.getD (i : Int).toNat dEntry).f1 = (b.getD (i : Int).toNat dEntry).f1
        · exact Ev.ite_pos h1 (ih.to (by rw [E_ext h0 h1]; simp))
        · refine Ev.ite_neg h1 (Ev.done ?_)
          rw [decide_eq_false]
          intro e; exact h1 (by rw [(List.cons.inj e).1])
      · rw [decide_eq_false h0]
        refine Ev.ite_pos rfl (Ev.done ?_)
        rw [decide_eq_false]
        intro e; exact h0 (by rw [(List.cons.inj e).1])
  · refine Ev.ite_neg (by omega) (Ev.done ?_)
    rw [decide_eq_false (fun e => hl (by rw [e]))]
theorem ref26_SameBag_ev (a b : List TEntry) (ha : Fin a) : Ev (fun k => erasureref26_SameBag k a b) (decide (a = b)) := by
  unfold erasureref26_SameBag
  exact Ev.bind (ref22_SameBag_ev a b ha) (Ev.now _)
end Go.Proofs.YtjhnpaenhdbhpacV
set_option linter.unusedVariables false
set_option linter.unusedSimpArgs false
namespace Go.Proofs.YtjhnpaenhdbhpacV
open Go Go.RowKit
theorem short_ev (l : List TEntry) (hl : l.length ≤ 9223372036854775807) : Ev (fun k => erasurelaw30_short k l) (l.all (fun e => decide (e.f0.length ≤ 20)) && decide (l.length ≤ 40)) := by
  unfold erasurelaw30_short
  refine (loop_down (P := fun i => Ev (fun k => erasurelaw30_short.p1 k l (i : Int)) ((l.drop i).all (fun e => decide (e.f0.length ≤ 20)) && decide (l.length ≤ 40))) l.length ?_ ?_ 0 (by omega))
  · refine Ev.succ ?_
    simp only [erasurelaw30_short.p1, decide_eq_true_eq]
    rw [List.drop_length]
    refine Ev.ite_neg (by omega) (Ev.done ?_)
    simp; omega
  · intro i hi ih
    refine Ev.succ ?_
    simp only [erasurelaw30_short.p1, decide_eq_true_eq]
    refine Ev.ite_pos (by omega) (Ev.ite_pos (by omega) ?_)
    rw [dE hi, wrn hi hl, List.all_cons]
    by_cases h : (l.getD (i : Int).toNat dEntry).f0.length ≤ 20
    · rw [decide_eq_true h]; exact Ev.ite_neg (by omega) (by simpa using ih)
    · rw [decide_eq_false h]; exact Ev.ite_pos (by omega) (Ev.done (by simp))
theorem selS_fin {l : List TEntry} (h : Fin l) (c : Int) (v : TValue) : Fin (selS l c v) :=
  ⟨Nat.le_trans (List.length_filter_le _ _) h.1, fun e he => h.2 e (List.mem_filter.1 he).1⟩
end Go.Proofs.YtjhnpaenhdbhpacV
set_option linter.unusedVariables false
set_option linter.unusedSimpArgs false
namespace Go.Proofs.YtjhnpaenhdbhpacV
open Go Go.RowKit
def refF (rows : List TEntry) (c d : Int) (x : TCached) : Option TCached := if selS rows c (clV x.f0) = [] then none else some ⟨x.f0, selS rows c (clV x.f0), d⟩
def refS (c : TCache) (s : List TCached) (rows : List TEntry) (d : Int) : List TCached := if cacheV s && (bagV rows && (okD c.f3 && okD d)) then s.filterMap (refF rows c.f2 d) else []
theorem len_pos_iff {α : Type} (l : List α) : ((l.length : Int) > 0) ↔ l ≠ [] := by cases l <;> simp <;> omega
theorem Refill_ev (c : TCache) (s : List TCached) (rows : List TEntry) (d : Int) (hs : FinC s) (hr : Fin rows) : Ev (fun k => cache_Refill k c s rows d) (refS c s rows d) := by
  unfold cache_Refill refS
  refine Ev.bind (usable_ev c s rows d hs hr) ?_
  cases hu : cacheV s && (bagV rows && (okD c.f3 && okD d)) with
  | false => exact Ev.ite_pos rfl (Ev.now _)
  | true =>
    refine Ev.ite_neg (by simp) ?_
    simp only [Bool.and_eq_true] at hu
    have hl := cacheV_len hu.1
    have hb := hu.2.1
    have key : ∀ i, i ≤ s.length → ∀ acc : List TCached, acc.length ≤ i → Ev (fun k => cache_Refill.p1 k s rows d (i : Int) c acc) (acc ++ (s.drop i).filterMap (refF rows c.f2 d)) := by
      refine loop_down (P := fun i => ∀ acc : List TCached, acc.length ≤ i → Ev (fun k => cache_Refill.p1 k s rows d (i : Int) c acc) (acc ++ (s.drop i).filterMap (refF rows c.f2 d))) s.length ?_ ?_
      · intro acc _
        refine Ev.succ ?_
        simp only [cache_Refill.p1, decide_eq_true_eq]
        exact Ev.ite_neg (by omega) (Ev.done (by simp))
      · intro i hi ih acc ha
        refine Ev.succ ?_
        simp only [cache_Refill.p1, decide_eq_true_eq, len_pos_iff]
        refine Ev.ite_pos (by omega) (Ev.ite_pos (by omega) (Ev.bind (sel_ev rows c.f2 _ (by have := bagV_len hb; omega) (fun e he => by have := okE_len (bagV_mem hb e he); omega)) ?_))
        rw [wrn hi (by omega), dC hi, List.filterMap_cons]
        by_cases h : selS rows c.f2 (clV (s.getD (i : Int).toNat dCached).f0) = []
        · refine Ev.ite_neg (fun q => q h) ((ih acc (by omega)).to ?_)
          simp only [refF, if_pos h]
        · refine Ev.ite_pos h (Ev.ite_pos (by simp [maxLen]; omega) ((ih _ (by simp; omega)).to ?_))
          simp only [refF, if_neg h]
          simp
    simpa using key 0 (by omega) [] (by simp)
def purS (s : List TCached) (vs : List TValue) : List TCached := if cacheV s then s.filter (fun x => !decide (x.f0 ∈ vs.map clV)) else []
theorem Purge_ev (s : List TCached) (vs : List TValue) (hs : FinC s) (hv : vs.length ≤ 9223372036854775807) : Ev (fun k => cache_Purge k s vs) (purS s vs) := by
  unfold cache_Purge purS
  refine Ev.bind (cache_Valid_ev s hs) ?_
  cases h1 : cacheV s with
  | false => exact Ev.ite_pos rfl (Ev.now _)
  | true =>
    refine Ev.ite_neg (by simp) ?_
    have hl := cacheV_len h1
    have p2 : ∀ m : List (TValue × Bool), (∀ v, getM m v false = decide (v ∈ vs.map clV)) → ∀ i, i ≤ s.length → ∀ acc : List TCached, acc.length ≤ i → Ev (fun k => cache_Purge.p2 k s (i : Int) m acc) (acc ++ (s.drop i).filter (fun x => !decide (x.f0 ∈ vs.map clV))) := by
      intro m hm
      refine loop_down (P := fun i => ∀ acc : List TCached, acc.length ≤ i → Ev (fun k => cache_Purge.p2 k s (i : Int) m acc) (acc ++ (s.drop i).filter (fun x => !decide (x.f0 ∈ vs.map clV)))) s.length ?_ ?_
      · intro acc _
        refine Ev.succ ?_
        simp only [cache_Purge.p2, decide_eq_true_eq]
        exact Ev.ite_neg (by omega) (Ev.done (by simp))
      · intro i hi ih acc ha
        refine Ev.succ ?_
        simp only [cache_Purge.p2, decide_eq_true_eq, hm]
        refine Ev.ite_pos (by omega) (Ev.ite_pos (by omega) ?_)
        rw [wrn hi (by omega), dC hi, List.filter_cons]
        cases h : decide ((s.getD (i : Int).toNat dCached).f0 ∈ vs.map clV) with
        | true => exact Ev.ite_neg (by simp) ((ih acc (by omega)).to (by simp))
        | false => exact Ev.ite_pos rfl (Ev.bind (duplicate_ev _ (cacheV_mem h1 _ (getD_mem _ hi)).2.1) (Ev.ite_pos (by simp [maxLen]; omega) ((ih _ (by simp; omega)).to (by simp))))
    have p1 : ∀ i, i ≤ vs.length → ∀ m : List (TValue × Bool), (∀ v, getM m v false = decide (v ∈ (vs.take i).map clV)) → Ev (fun k => cache_Purge.p1 k s vs (i : Int) m) (s.filter (fun x => !decide (x.f0 ∈ vs.map clV))) := by
      refine loop_down (P := fun i => ∀ m : List (TValue × Bool), (∀ v, getM m v false = decide (v ∈ (vs.take i).map clV)) → Ev (fun k => cache_Purge.p1 k s vs (i : Int) m) (s.filter (fun x => !decide (x.f0 ∈ vs.map clV)))) vs.length ?_ ?_
      · intro m hm
        refine Ev.succ ?_
        simp only [cache_Purge.p1, decide_eq_true_eq]
        rw [List.take_length] at hm
        refine Ev.ite_neg (by omega) ?_
        simpa using p2 m hm 0 (by omega) [] (by simp)
      · intro i hi ih m hm
        refine Ev.succ ?_
        simp only [cache_Purge.p1, decide_eq_true_eq, value_Clean_eq, Option.bind_some]
        refine Ev.ite_pos (by omega) (Ev.ite_pos (by omega) ?_)
        rw [wrn hi (by omega)]
        refine ih _ fun v => ?_
        have htk : vs.take (i + 1) = vs.take i ++ [vs.getD (i : Int).toNat dValue] := by
          rw [List.take_succ_eq_append_getElem hi]; simp [hi]
        rw [htk, List.map_append, List.map_singleton]
        obtain ⟨g1, g2⟩ := get_put (clV (vs.getD (i : Int).toNat dValue)) v true false m
        by_cases hvv : v = clV (vs.getD (i : Int).toNat dValue)
        · rw [g1 hvv]; simp [hvv]
        · rw [g2 hvv, hm]; simp only [List.mem_append, List.mem_singleton, hvv, or_false]
    exact p1 0 (by omega) [] (fun v => by simp [getM_nil])
theorem C_ext {x y : TCached} (h0 : x.f0 = y.f0) (h1 : x.f1 = y.f1) (h2 : x.f2 = y.f2) : x = y := by cases x; cases y; simp_all
instance : DecidableEq TCached := fun x y => decidable_of_iff (x.f0 = y.f0 ∧ x.f1 = y.f1 ∧ x.f2 = y.f2) ⟨fun h => C_ext h.1 h.2.1 h.2.2, fun h => by subst h; exact ⟨rfl, rfl, rfl⟩⟩
theorem Equal_ev (a b : List TValue) (ha : a.length ≤ 9223372036854775807) : Ev (fun k => slices_Equal_api_Value k a b) (decide (a = b)) := by
  unfold slices_Equal_api_Value
  simp only [bne_iff_ne]
  by_cases hl : a.length = b.length
  · refine Ev.ite_neg (fun h => h (by omega)) ?_
    have key : ∀ i, i ≤ a.length → Ev (fun k => slices_Equal_api_Value.p1 k a b (a.length : Int) (i : Int)) (decide (a.drop i = b.drop i)) := by
      refine loop_down (P := fun i => Ev (fun k => slices_Equal_api_Value.p1 k a b (a.length : Int) (i : Int)) (decide (a.drop i = b.drop i))) a.length ?_ ?_
      · refine Ev.succ ?_
        simp only [slices_Equal_api_Value.p1, decide_eq_true_eq]
        exact Ev.ite_neg (by omega) (Ev.done (by rw [hl, List.drop_length, ← hl, List.drop_length]; simp))
      · intro i hi ih
        refine Ev.succ ?_
        simp only [slices_Equal_api_Value.p1, decide_eq_true_eq, eqV_iff]
        refine Ev.ite_pos (by omega) (Ev.ite_pos (by omega) (Ev.ite_pos (by omega) ?_))
        rw [wrn hi (by omega), dV hi, dV (show i < b.length by omega)]
        by_cases h : a.getD (i : Int).toNat dValue = b.getD (i : Int).toNat dValue
        · rw [decide_eq_true h]; exact Ev.ite_neg (by simp) (ih.to (by rw [h]; simp))
        · rw [decide_eq_false h]; exact Ev.ite_pos rfl (Ev.done (by rw [decide_eq_false]; intro e; exact h (List.cons.inj e).1))
    simpa using key 0 (by omega)
  · refine Ev.ite_pos (fun h => hl (by omega)) (Ev.done ?_)
    rw [decide_eq_false]; intro e; exact hl (by rw [e])
theorem same_ev (a b : List TEntry) (ha : Fin a) : Ev (fun k => cache_same k a b) (decide (a = b)) := by
  unfold cache_same
  simp only [bne_iff_ne]
  have hla := ha.1
  by_cases hl : a.length = b.length
  · refine Ev.ite_neg (fun h => h (by omega)) ?_
    have key : ∀ i, i ≤ a.length → Ev (fun k => cache_same.p1 k a b (i : Int)) (decide (a.drop i = b.drop i)) := by
      refine loop_down (P := fun i => Ev (fun k => cache_same.p1 k a b (i : Int)) (decide (a.drop i = b.drop i))) a.length ?_ ?_
      · refine Ev.succ ?_
        simp only [cache_same.p1, decide_eq_true_eq]
        exact Ev.ite_neg (by omega) (Ev.done (by rw [hl, List.drop_length, ← hl, List.drop_length]; simp))
      · intro i hi ih
        refine Ev.succ ?_
        simp only [cache_same.p1, decide_eq_true_eq, bne_iff_ne]
        refine Ev.ite_pos (by omega) (Ev.ite_pos (by omega) (Ev.ite_pos (by omega) ?_))
        rw [wrn hi (by omega), dE hi, dE (show i < b.length by omega)]
        by_cases h1 : (a.getD (i : Int).toNat dEntry).f1 = (b.getD (i : Int).toNat dEntry).f1
        · refine Ev.ite_neg (fun h => h h1) (Ev.bind (Equal_ev _ _ (ha.at hi)) ?_)
          by_cases h0 : (a.getD (i : Int).toNat dEntry).f0 = (b.getD (i : Int).toNat dEntry).f0
          · rw [decide_eq_true h0]; exact Ev.ite_neg (by simp) (ih.to (by rw [E_ext h0 h1]; simp))
          · rw [decide_eq_false h0]; exact Ev.ite_pos rfl (Ev.done (by rw [decide_eq_false]; intro e; exact h0 (by rw [(List.cons.inj e).1])))
        · exact Ev.ite_pos h1 (Ev.done (by rw [decide_eq_false]; intro e; exact h1 (by rw [(List.cons.inj e).1])))
    simpa using key 0 (by omega)
  · refine Ev.ite_pos (fun h => hl (by omega)) (Ev.done ?_)
    rw [decide_eq_false]; intro e; exact hl (by rw [e])
def freS (c : TCache) (s : List TCached) (rows : List TEntry) : Bool := cacheV s && (bagV rows && s.all fun x => decide (x.f1 = selS rows c.f2 (clV x.f0)))
theorem Fresh_ev (c : TCache) (s : List TCached) (rows : List TEntry) (hs : FinC s) (hr : Fin rows) : Ev (fun k => cache_Fresh k c s rows) (freS c s rows) := by
  unfold cache_Fresh freS
  refine Ev.bind (cache_Valid_ev s hs) ?_
  cases h1 : cacheV s with
  | false => exact Ev.ite_pos rfl (Ev.now _)
  | true =>
    refine Ev.ite_neg (by simp) (Ev.bind (bag_Valid_ev rows hr) ?_)
    cases hb : bagV rows with
    | false => exact Ev.ite_pos rfl (Ev.now _)
    | true =>
      refine Ev.ite_neg (by simp) ?_
      have hl := cacheV_len h1
      have key : ∀ i, i ≤ s.length → Ev (fun k => cache_Fresh.p1 k s rows (i : Int) c) ((s.drop i).all fun x => decide (x.f1 = selS rows c.f2 (clV x.f0))) := by
        refine loop_down (P := fun i => Ev (fun k => cache_Fresh.p1 k s rows (i : Int) c) ((s.drop i).all fun x => decide (x.f1 = selS rows c.f2 (clV x.f0)))) s.length ?_ ?_
        · refine Ev.succ ?_
          simp only [cache_Fresh.p1, decide_eq_true_eq]
          exact Ev.ite_neg (by omega) (Ev.done (by simp))
        · intro i hi ih
          refine Ev.succ ?_
          simp only [cache_Fresh.p1, decide_eq_true_eq]
          refine Ev.ite_pos (by omega) (Ev.ite_pos (by omega) (Ev.bind (sel_ev rows c.f2 _ (by have := bagV_len hb; omega) (fun e he => by have := okE_len (bagV_mem hb e he); omega)) (Ev.bind (same_ev _ _ (hs.2 _ (getD_mem _ hi))) ?_)))
          rw [wrn hi (by omega), dC hi, List.all_cons]
          cases h : decide ((s.getD (i : Int).toNat dCached).f1 = selS rows c.f2 (clV (s.getD (i : Int).toNat dCached).f0)) with
          | false => exact Ev.ite_pos rfl (Ev.now _)
          | true => exact Ev.ite_neg (by simp) (ih.to (by simp))
      simpa using key 0 (by omega)
end Go.Proofs.YtjhnpaenhdbhpacV
set_option linter.unusedVariables false
set_option linter.unusedSimpArgs false
namespace Go.Proofs.YtjhnpaenhdbhpacV
open Go Go.RowKit
def OrdV (l : List TValue) : Prop := l.Pairwise fun x y => cmpV x y < 0
def insV (v : TValue) : List TValue → List TValue
  | [] => [v]
  | x :: l => if cmpV x v < 0 then x :: insV v l else v :: x :: l
def insU (out : List TValue) (v : TValue) : List TValue := if v ∈ out then out else insV v out
def appU (out : List TValue) (v : TValue) : List TValue := if v ∈ out then out else out ++ [v]
def valsE (l : List TEntry) (c : Int) : List TValue := l.map fun e => atV e.f0 c
def touS (m p : List TEntry) (c : Int) : List TValue := (valsE (m ++ p) c).foldl insU []
theorem atV_ok (row : List TValue) (c : Int) : okV (atV row c) = true := by
  unfold atV
  split
  · exact okV_z
  · split
    · exact okV_z
    · exact okV_cl _
theorem insV_perm (v : TValue) : ∀ l : List TValue, (insV v l).Perm (v :: l)
  | [] => List.Perm.refl _
  | x :: l => by
    unfold insV
    split
    · exact ((insV_perm v l).cons x).trans (List.Perm.swap v x l)
    · exact List.Perm.refl _
theorem insV_mem {v x : TValue} {l : List TValue} : x ∈ insV v l ↔ x = v ∨ x ∈ l := by
  rw [(insV_perm v l).mem_iff, List.mem_cons]
theorem insV_ord (v : TValue) (hv : okV v = true) : ∀ l : List TValue, OrdV l → (∀ x ∈ l, okV x = true) → v ∉ l → OrdV (insV v l)
  | [], _, _, _ => List.pairwise_singleton _ _
  | x :: l, ho, hk, hn => by
    unfold insV
    have h1 := List.pairwise_cons.1 ho
    have hx := hk x (List.mem_cons_self ..)
    by_cases h : cmpV x v < 0
    · rw [if_pos h]
      refine List.pairwise_cons.2 ⟨fun y hy => ?_, insV_ord v hv l h1.2 (fun y hy => hk y (List.mem_cons_of_mem _ hy)) (fun e => hn (List.mem_cons_of_mem _ e))⟩
      rcases insV_mem.1 hy with rfl | hy
      · exact h
      · exact h1.1 y hy
    · rw [if_neg h]
      have hz : cmpV x v ≠ 0 := fun e => hn (by rw [(cmpV_zero hx hv).1 e]; exact List.mem_cons_self ..)
      have hs := cmpV_swap x v
      have hvx : cmpV v x < 0 := by omega
      refine List.pairwise_cons.2 ⟨fun y hy => ?_, ho⟩
      rcases List.mem_cons.1 hy with rfl | hy
      · exact hvx
      · exact cmpV_trans hvx (h1.1 y hy)
theorem fold_ok : ∀ (L out : List TValue), (∀ x ∈ L, okV x = true) → (∀ x ∈ out, okV x = true) → OrdV out → OrdV (L.foldl insU out) ∧ ∀ x ∈ L.foldl insU out, okV x = true
  | [], out, _, h2, h3 => ⟨h3, h2⟩
  | v :: L, out, h1, h2, h3 => by
    rw [List.foldl_cons]
    have hv := h1 v (List.mem_cons_self ..)
    refine fold_ok L _ (fun x hx => h1 x (List.mem_cons_of_mem _ hx)) (fun x hx => ?_) ?_
    · unfold insU at hx
      split at hx
      · exact h2 x hx
      · rcases insV_mem.1 hx with rfl | hx
        · exact hv
        · exact h2 x hx
    · unfold insU
      split
      · exact h3
      · rename_i hn; exact insV_ord v hv out h3 h2 hn
theorem fold_perm : ∀ (L a b : List TValue), a.Perm b → (L.foldl insU a).Perm (L.foldl appU b)
  | [], a, b, h => h
  | v :: L, a, b, h => by
    rw [List.foldl_cons, List.foldl_cons]
    refine fold_perm L _ _ ?_
    unfold insU appU
    by_cases hv : v ∈ a
    · rw [if_pos hv, if_pos (h.mem_iff.1 hv)]; exact h
    · rw [if_neg hv, if_neg (fun e => hv (h.mem_iff.2 e))]
      exact (insV_perm v a).trans ((h.cons v).trans (List.perm_append_comm (l₁ := [v])))
theorem fold_len : ∀ (L a : List TValue), (L.foldl appU a).length ≤ a.length + L.length
  | [], a => by simp
  | v :: L, a => by
    rw [List.foldl_cons]
    have := fold_len L (appU a v)
    have h : (appU a v).length ≤ a.length + 1 := by unfold appU; split <;> simp
    simp only [List.length_cons]
    omega
theorem cmpV_ok {xs : List TValue} (h : ∀ x ∈ xs, okV x = true) : CmpOK cmpV xs where
  irrefl x _ := by rw [cmpV_self]; omega
  trans x _ y _ z _ h1 h2 := cmpV_trans h1 h2
  ntrans x hx y hy z hz h1 h2 := by
    intro h3
    have s1 := cmpV_swap x y
    have s2 := cmpV_swap y z
    by_cases e1 : cmpV x y = 0
    · rw [(cmpV_zero (h x hx) (h y hy)).1 e1] at h3; exact h2 h3
    · by_cases e2 : cmpV y z = 0
      · rw [← (cmpV_zero (h y hy) (h z hz)).1 e2] at h3; exact h1 h3
      · have := cmpV_trans (show cmpV z y < 0 by omega) (show cmpV y x < 0 by omega)
        have s3 := cmpV_swap z x
        omega
  anti x hx y hy h1 h2 := by
    have s := cmpV_swap x y
    exact (cmpV_zero (h x hx) (h y hy)).1 (by omega)
theorem sort_vals {xs ys : List TValue} (h : ∀ x ∈ xs, okV x = true) (hp : ys.Perm xs) (ho : OrdV ys) (hl : xs.length ≤ 1099511627776) : sortC (fun k x y => value_Compare k x y) xs = some ys := by
  refine sortC_eq (fun x y k k' r hk h => value_Compare.mono k k' x y r hk h) ⟨⟨cmpV, fun x _ y _ => ⟨0, value_Compare_eq 0 x y⟩, cmpV_ok h, hp, ?_, by omega⟩⟩
  refine ho.imp fun {a b} hab => ?_
  have := cmpV_swap a b
  omega
theorem valsE_ok (l : List TEntry) (c : Int) : ∀ x ∈ valsE l c, okV x = true := by
  intro x hx
  obtain ⟨e, _, rfl⟩ := List.mem_map.1 hx
  exact atV_ok _ _
theorem getM_pairs (v : TValue) : ∀ out : List TValue, getM (out.map fun x => (x, true)) v false = decide (v ∈ out)
  | [] => rfl
  | x :: out => by
    simp only [List.map_cons, getM, getM_pairs v out]
    by_cases h : x = v
    · simp [h]
    · have : ¬ v = x := fun e => h e.symm
      simp [h, this]
theorem putM_pairs (v : TValue) : ∀ out : List TValue, v ∉ out → putM (out.map fun x => (x, true)) v true = (out ++ [v]).map fun x => (x, true)
  | [], _ => rfl
  | x :: out, h => by
    have h1 : ¬ x = v := fun e => h (by rw [e]; exact List.mem_cons_self ..)
    simp only [List.map_cons, putM, List.cons_append]
    rw [if_neg h1, putM_pairs v out (fun e => h (List.mem_cons_of_mem _ e))]
theorem touched_p2 (c : Int) (l : List TEntry) (n j : Int) (V : List (List TEntry)) (r : List TValue) (hl : l.length ≤ 1099511627776) : ∀ i, i ≤ l.length → ∀ out : List TValue, out.length ≤ 1099511627776 + i →
    EvU (fun rec1 => rec1 c n (IntKind.i64.wrap (j + 1)) (((valsE (l.drop i) c).foldl appU out).map fun x => (x, true)) ((valsE (l.drop i) c).foldl appU out) V = some r)
      (fun rec1 k => cache_Touched.p2 rec1 k c l (i : Int) n j (out.map fun x => (x, true)) out V) r := by
  refine loop_down (P := fun i => ∀ out : List TValue, out.length ≤ 1099511627776 + i → EvU (fun rec1 => rec1 c n (IntKind.i64.wrap (j + 1)) (((valsE (l.drop i) c).foldl appU out).map fun x => (x, true)) ((valsE (l.drop i) c).foldl appU out) V = some r)
      (fun rec1 k => cache_Touched.p2 rec1 k c l (i : Int) n j (out.map fun x => (x, true)) out V) r) l.length ?_ ?_
  · intro out _
    refine EvU.succ ?_
    simp only [cache_Touched.p2, decide_eq_true_eq, List.drop_length]
    exact EvU.ite_neg (by omega) (EvU.rec fun x hx => hx)
  · intro i hi ih out ho
    refine EvU.succ ?_
    simp only [cache_Touched.p2, decide_eq_true_eq, cache_at_eq, Option.bind_some, getM_pairs]
    refine EvU.ite_pos (by omega) (EvU.ite_pos (by omega) ?_)
    rw [wrn hi (by omega), dE hi]
    simp only [valsE, List.map_cons, List.foldl_cons]
    by_cases h : atV (l.getD (i : Int).toNat dEntry).f0 c ∈ out
    · rw [decide_eq_true h]
      simp only [appU, if_pos h]
      exact EvU.ite_neg (by simp) (ih out (by omega))
    · rw [decide_eq_false h]
      simp only [putM_pairs _ out h, appU, if_neg h]
      exact EvU.ite_pos rfl (EvU.ite_pos (by simp [maxLen]; omega) (ih _ (by simp; omega)))
theorem touched_p1 (c : Int) (m p : List TEntry) (hm : m.length ≤ 1000000) (hp : p.length ≤ 1000000) : Ev (fun k => cache_Touched k m p c) (touS m p c) := by
  unfold cache_Touched
  have hD : (valsE p c).foldl appU ((valsE m c).foldl appU []) = (valsE (m ++ p) c).foldl appU [] := by simp [valsE]
  have hlen := fold_len (valsE (m ++ p) c) []
  simp only [valsE, List.length_map, List.length_append, List.length_nil] at hlen
  have hlm := fold_len (valsE m c) []
  simp only [valsE, List.length_map, List.length_nil] at hlm
  have last : Ev (fun k => cache_Touched.p1 k c 2 2 (((valsE (m ++ p) c).foldl appU []).map fun x => (x, true)) ((valsE (m ++ p) c).foldl appU []) [m, p]) (touS m p c) := by
    refine Ev.succ ?_
    simp only [cache_Touched.p1, decide_eq_true_eq]
    refine Ev.ite_neg (by omega) ?_
    have hpm := fold_perm (valsE (m ++ p) c) [] [] (List.Perm.refl _)
    have hok := fold_ok (valsE (m ++ p) c) [] (valsE_ok _ c) (fun x hx => by cases hx) List.Pairwise.nil
    rw [sort_vals (ys := touS m p c) (fun x hx => hok.2 x (hpm.mem_iff.2 hx)) hpm hok.1 (by simp only [valsE]; omega)]
    exact Ev.now _
  have second : Ev (fun k => cache_Touched.p1 k c 2 1 (((valsE m c).foldl appU []).map fun x => (x, true)) ((valsE m c).foldl appU []) [m, p]) (touS m p c) := by
    refine Ev.succ ?_
    simp only [cache_Touched.p1, decide_eq_true_eq]
    refine Ev.ite_pos (by omega) (Ev.ite_pos (by simp) ?_)
    have h := touched_p2 c p 2 1 [m, p] (touS m p c) (by omega) 0 (by omega) ((valsE m c).foldl appU []) (by simp only [valsE]; omega)
    refine EvU.use (F := fun k => cache_Touched.p1 k) h ?_
    obtain ⟨K, hK⟩ := last
    refine ⟨K, fun k hk => ?_⟩
    rw [List.drop_zero, hD, show IntKind.i64.wrap (1 + 1) = 2 from rfl]
    exact hK k hk
  refine Ev.succ ?_
  simp only [cache_Touched.p1, decide_eq_true_eq]
  refine Ev.ite_pos (by simp) (Ev.ite_pos (by simp) ?_)
  have h := touched_p2 c m 2 0 [m, p] (touS m p c) (by omega) 0 (by omega) [] (by simp)
  refine EvU.use (F := fun k => cache_Touched.p1 k) h ?_
  obtain ⟨K, hK⟩ := second
  refine ⟨K, fun k hk => ?_⟩
  rw [List.drop_zero, show IntKind.i64.wrap (0 + 1) = 1 from rfl]
  exact hK k hk
end Go.Proofs.YtjhnpaenhdbhpacV
set_option linter.unusedVariables false
set_option linter.unusedSimpArgs false
namespace Go.Proofs.YtjhnpaenhdbhpacV
open Go Go.RowKit
theorem awake30_ev : Ev (fun k => erasurelaw30_awake k) true := Ev.of (fun k k' hk h => erasurelaw30_awake.mono k k' true hk h) (k := 60) (by kernel_rfl)
theorem insC_len (w : TValue) (y : TCached) : ∀ l : List TCached, (insC w y l).length = l.length + 1
  | [] => rfl
  | x :: l => by rw [insC_cons]; split <;> simp [insC_len w y l]
theorem insC_mem (w : TValue) (y : TCached) : ∀ l : List TCached, ∀ x ∈ insC w y l, x = y ∨ x ∈ l
  | [], x, hx => by left; simpa [insC] using hx
  | z :: l, x, hx => by
    rw [insC_cons] at hx
    split at hx
    · rcases List.mem_cons.1 hx with rfl | hx
      · exact .inr (List.mem_cons_self ..)
      · exact (insC_mem w y l x hx).imp id (List.mem_cons_of_mem _)
    · rcases List.mem_cons.1 hx with rfl | hx
      · exact .inl rfl
      · exact .inr hx
end Go.Proofs.YtjhnpaenhdbhpacV
set_option linter.unusedVariables false
set_option linter.unusedSimpArgs false
namespace Go.Proofs.YtjhnpaenhdbhpacV
open Go Go.RowKit
theorem ctF_of : ∀ (l : List TCached) (p : Option TCached), (∀ x ∈ l, okV x.f0 = true ∧ bagV x.f1 = true ∧ okD x.f2 = true) → Ord l → (∀ q, p = some q → ∀ x ∈ l, cmpV q.f0 x.f0 < 0) → ctF p l = true
  | [], p, _, _, _ => by cases p <;> rfl
  | y :: l, p, h1, h2, h3 => by
    have hy := h1 y (List.mem_cons_self ..)
    have h4 := List.pairwise_cons.1 h2
    have ih := ctF_of l (some y) (fun x hx => h1 x (List.mem_cons_of_mem _ hx)) h4.2 (fun q hq x hx => by cases hq; exact h4.1 x hx)
    cases p with
    | none => simp [ctF, hy, ih]
    | some p => simp [ctF, hy, ih, h3 p rfl y (List.mem_cons_self ..)]
theorem cacheV_of {l : List TCached} (h1 : ∀ x ∈ l, okV x.f0 = true ∧ bagV x.f1 = true ∧ okD x.f2 = true) (h2 : Ord l) (h3 : l.length ≤ 16) : cacheV l = true := by
  unfold cacheV
  rw [ctF_of l none h1 h2 (fun q hq => by cases hq), decide_eq_true h3]; rfl
theorem insC_ord (w : TValue) (y : TCached) (hw : okV w = true) (hy : y.f0 = w) : ∀ l : List TCached, Ord l → (∀ x ∈ l, okV x.f0 = true) → (∀ x ∈ l, x.f0 ≠ w) → Ord (insC w y l)
  | [], _, _, _ => List.pairwise_singleton _ _
  | x :: l, ho, hk, hn => by
    rw [insC_cons]
    have h1 := List.pairwise_cons.1 ho
    have hx := hk x (List.mem_cons_self ..)
    by_cases h : cmpV x.f0 w < 0
    · rw [if_pos h]
      refine List.pairwise_cons.2 ⟨fun z hz => ?_, insC_ord w y hw hy l h1.2 (fun z hz => hk z (List.mem_cons_of_mem _ hz)) (fun z hz => hn z (List.mem_cons_of_mem _ hz))⟩
      rcases insC_mem w y l z hz with rfl | hz
      · rw [hy]; exact h
      · exact h1.1 z hz
    · rw [if_neg h]
      have hz : cmpV x.f0 w ≠ 0 := fun e => hn x (List.mem_cons_self ..) ((cmpV_zero hx hw).1 e)
      have hs := cmpV_swap x.f0 w
      refine List.pairwise_cons.2 ⟨fun z hz => ?_, ho⟩
      rw [hy]
      rcases List.mem_cons.1 hz with rfl | hz
      · omega
      · exact cmpV_trans (show cmpV w x.f0 < 0 by omega) (h1.1 z hz)
theorem dropOld_sub (l : List TCached) : (dropOld l).Sublist l := by
  unfold dropOld
  have h1 := List.take_append_drop (oldestF l 0 1 (l.drop 1)) l
  have h2 : (l.drop (oldestF l 0 1 (l.drop 1) + 1)).Sublist (l.drop (oldestF l 0 1 (l.drop 1))) := by rw [← List.drop_drop]; exact List.drop_sublist _ _
  have := (List.Sublist.refl (l.take (oldestF l 0 1 (l.drop 1)))).append h2
  rwa [h1] at this
theorem lookF_ok (rows : List TEntry) (d : Int) (c : TCache) (out : List TCached) (w : TValue) (hb : bagV rows = true) (hd : okD d = true) (hw : okV w = true) (ho : cacheV out = true) : ∀ l : List TCached, (∀ x ∈ l, x ∈ out) → (∀ x ∈ out, x.f0 = w → x ∈ l) →
    cacheV (lookF rows d c out w l).1 = true ∧ bagV (lookF rows d c out w l).2.1 = true
  | [], _, hno => by
    have hm := cacheV_mem ho
    have hl := cacheV_len ho
    have hne : ∀ x ∈ out, x.f0 ≠ w := fun x hx e => by have := hno x hx e; cases this
    have hsel : bagV (selS rows c.f2 w) = true := bagV_filter _ hb
    refine ⟨?_, hsel⟩
    unfold lookF
    have hsub : (if 16 ≤ out.length then dropOld out else out).Sublist out := by split; exact dropOld_sub out; exact List.Sublist.refl _
    have hlen : (if 16 ≤ out.length then dropOld out else out).length ≤ 15 := by
      split
      · rw [dropOld_len (by omega)]; omega
      · omega
    refine cacheV_of (fun x hx => ?_) (insC_ord w _ hw rfl _ ((cacheV_ord ho).sublist hsub) (fun x hx => (hm x (hsub.mem hx)).1) (fun x hx => hne x (hsub.mem hx))) (by rw [insC_len]; omega)
    rcases insC_mem w _ _ x hx with rfl | hx
    · exact ⟨hw, hsel, hd⟩
    · exact hm x (hsub.mem hx)
  | x :: l, hs, hno => by
    unfold lookF
    by_cases h : x.f0 = w
    · rw [if_pos h]; exact ⟨ho, (cacheV_mem ho x (hs x (List.mem_cons_self ..))).2.1⟩
    · rw [if_neg h]
      refine lookF_ok rows d c out w hb hd hw ho l (fun y hy => hs y (List.mem_cons_of_mem _ hy)) (fun y hy e => ?_)
      rcases List.mem_cons.1 (hno y hy e) with rfl | hy
      · exact absurd e h
      · exact hy
theorem cacheV_filter {l : List TCached} (p : TCached → Bool) (h : cacheV l = true) : cacheV (l.filter p) = true :=
  cacheV_of (fun x hx => cacheV_mem h x (List.mem_filter.1 hx).1) ((cacheV_ord h).filter _) (Nat.le_trans (List.length_filter_le _ _) (cacheV_len h))
theorem expS_ok (t d : Int) (l : List TCached) : cacheV (expS t l d) = true := by
  unfold expS
  split
  · rename_i h; simp only [Bool.and_eq_true] at h; exact cacheV_filter _ h.1
  · rfl
theorem lookS_ok (c : TCache) (l : List TCached) (rows : List TEntry) (v : TValue) (d : Int) : cacheV (lookS c l rows v d).1 = true ∧ bagV (lookS c l rows v d).2.1 = true := by
  unfold lookS
  split
  · rename_i h
    simp only [Bool.and_eq_true] at h
    exact lookF_ok rows d c _ _ h.2.1 h.2.2.2 (okV_cl v) (expS_ok _ _ _) _ (fun _ h => h) (fun _ h _ => h)
  · exact ⟨rfl, rfl⟩
theorem refS_ok (c : TCache) (s : List TCached) (rows : List TEntry) (d : Int) : cacheV (refS c s rows d) = true := by
  unfold refS
  split
  · rename_i h
    simp only [Bool.and_eq_true] at h
    have hm := cacheV_mem h.1
    have key : ∀ x y, refF rows c.f2 d x = some y → y.f0 = x.f0 ∧ bagV y.f1 = true ∧ y.f2 = d := by
      intro x y hxy
      unfold refF at hxy
      split at hxy
      · cases hxy
      · injection hxy with hxy; subst hxy; exact ⟨rfl, bagV_filter _ h.2.1, rfl⟩
    refine cacheV_of (fun y hy => ?_) ?_ (Nat.le_trans (List.length_filterMap_le _ _) (cacheV_len h.1))
    · obtain ⟨x, hx, hxy⟩ := List.mem_filterMap.1 hy
      obtain ⟨k1, k2, k3⟩ := key x y hxy
      exact ⟨by rw [k1]; exact (hm x hx).1, k2, by rw [k3]; exact h.2.2.2⟩
    · refine List.Pairwise.filterMap _ (fun a a' haa b hb b' hb' => ?_) (cacheV_ord h.1)
      rw [(key a b hb).1, (key a' b' hb').1]; exact haa
  · rfl
theorem purS_ok (s : List TCached) (vs : List TValue) : cacheV (purS s vs) = true := by
  unfold purS
  split
  · rename_i h; exact cacheV_filter _ h
  · rfl
theorem cacheV_fin {l : List TCached} (h : cacheV l = true) : FinC l :=
  ⟨by have := cacheV_len h; omega, fun x hx => bagV_fin (cacheV_mem h x hx).2.1⟩
theorem sameBag_self {l : List TEntry} (h : Fin l) : Ev (fun k => erasureref26_SameBag k l l) true := by
  have := ref26_SameBag_ev l l h
  simpa using this
end Go.Proofs.YtjhnpaenhdbhpacV
set_option linter.unusedVariables false
set_option linter.unusedSimpArgs false
namespace Go.Proofs.YtjhnpaenhdbhpacV
open Go Go.RowKit
theorem fin_of {l : List TEntry} (h0 : l.length ≤ maxLen ∧ ∀ e0 ∈ l, ((e0.f0.length ≤ maxLen ∧ ∀ e1 ∈ e0.f0, ((Lit.int .i64 e1.f0).wf = true ∧ ((Lit.int .i64 e1.f1).wf = true ∧ e1.f2.size ≤ maxLen))) ∧ (Lit.int .i64 e0.f1).wf = true)) : Fin l :=
  ⟨by have := h0.1; simp only [maxLen] at this; omega, fun e he => by have := (h0.2 e he).1.1; simp only [maxLen] at this; omega⟩
theorem aw30 : Ev (fun k => (erasurelaw30_awake k).bind fun y => some y) true := Ev.bind awake30_ev (Ev.now _)
theorem touS_len (m p : List TEntry) (c : Int) : (touS m p c).length ≤ m.length + p.length := by
  have h1 := (fold_perm (valsE (m ++ p) c) [] [] (List.Perm.refl _)).length_eq
  have h2 := fold_len (valsE (m ++ p) c) []
  simp only [valsE, List.length_map, List.length_append, List.length_nil] at h2
  unfold touS
  simp only [valsE] at h1 ⊢
  omega
end Go.Proofs.YtjhnpaenhdbhpacV
set_option linter.unusedVariables false
set_option linter.unusedSimpArgs false
namespace Go.Proofs.YtjhnpaenhdbhpacV
open Go Go.RowKit
theorem fold_mem (x : TValue) : ∀ (L out : List TValue), x ∈ L.foldl insU out ↔ x ∈ L ∨ x ∈ out
  | [], out => by simp
  | v :: L, out => by
    rw [List.foldl_cons, fold_mem x L, List.mem_cons]
    have : x ∈ insU out v ↔ x = v ∨ x ∈ out := by
      unfold insU
      split
      · rename_i h; exact ⟨Or.inr, fun h' => h'.elim (fun e => e ▸ h) id⟩
      · exact insV_mem
    rw [this]
    constructor
    · rintro (h | h | h)
      · exact Or.inl (Or.inr h)
      · exact Or.inl (Or.inl h)
      · exact Or.inr h
    · rintro ((h | h) | h)
      · exact Or.inr (Or.inl h)
      · exact Or.inl h
      · exact Or.inr (Or.inr h)
end Go.Proofs.YtjhnpaenhdbhpacV
set_option linter.unusedVariables false
set_option linter.unusedSimpArgs false
namespace Go.Proofs.YtjhnpaenhdbhpacV
open Go Go.RowKit
def fillOk (a : List TEntry) (col : Int) (s : List TCached) : Prop := cacheV s = true ∧ ∀ x ∈ s, x.f1 = selS a col x.f0 ∧ x.f2 = 9
theorem lookF_fill (a : List TEntry) (c : TCache) (out : List TCached) (w : TValue) (ho : fillOk a c.f2 out) : ∀ l : List TCached, (∀ x ∈ l, x ∈ out) →
    (∀ x ∈ (lookF a 9 c out w l).1, x.f1 = selS a c.f2 x.f0 ∧ x.f2 = 9) ∧ (lookF a 9 c out w l).2.1 = selS a c.f2 w ∧ (lookF a 9 c out w l).2.2 = 0
  | [], _ => by
    refine ⟨fun x hx => ?_, rfl, rfl⟩
    unfold lookF at hx
    rcases insC_mem w _ _ x hx with rfl | hx
    · exact ⟨rfl, rfl⟩
    · refine ho.2 x ?_
      split at hx
      · exact (dropOld_sub out).mem hx
      · exact hx
  | x :: l, hs => by
    unfold lookF
    by_cases h : x.f0 = w
    · rw [if_pos h]
      refine ⟨ho.2, ?_, rfl⟩
      show x.f1 = selS a c.f2 w
      rw [(ho.2 x (hs x (List.mem_cons_self ..))).1, h]
    · rw [if_neg h]
      exact lookF_fill a c out w ho l (fun y hy => hs y (List.mem_cons_of_mem _ hy))
theorem look_fill {a : List TEntry} {c : TCache} {s : List TCached} (v : TValue) (ha : bagV a = true) (hT : 1 ≤ c.f3 ∧ c.f3 ≤ 1000) (hs : fillOk a c.f2 s) : fillOk a c.f2 (lookS c s a v 9).1 ∧ (lookS c s a v 9).2.1 = selS a c.f2 (clV v) ∧ (lookS c s a v 9).2.2 = 0 := by
  have d1 : okD c.f3 = true := decide_eq_true (by omega)
  have d2 : okD 9 = true := rfl
  have he : expS c.f3 s 9 = s := by
    unfold expS
    rw [hs.1, d1, d2]
    show s.filter (liveC c.f3 9) = s
    refine List.filter_eq_self.2 (fun x hx => ?_)
    have := (hs.2 x hx).2
    unfold liveC
    rw [this]
    exact decide_eq_true (by omega)
  have lo := lookS_ok c s a v 9
  have hls : lookS c s a v 9 = lookF a 9 c s (clV v) s := by
    unfold lookS
    rw [hs.1, ha, d1, d2, he]; rfl
  obtain ⟨h1, h2, h3⟩ := lookF_fill a c s (clV v) hs s (fun x hx => hx)
  rw [← hls] at h1 h2 h3
  exact ⟨⟨lo.1, h1⟩, h2, h3⟩
theorem filled_ev (c : TCache) (a : List TEntry) (vs : List TValue) (ha : bagV a = true) (hT : 1 ≤ c.f3 ∧ c.f3 ≤ 1000) (hv : vs.length ≤ 9223372036854775807) : ∃ s, fillOk a c.f2 s ∧ Ev (fun k => erasurelaw30_filled k c a vs 9) (s, true) := by
  have fa := bagV_fin ha
  have key : ∀ n i : Nat, i + n = 12 → i ≤ 12 → ∀ s, fillOk a c.f2 s → ∃ t, fillOk a c.f2 t ∧ Ev (fun k => erasurelaw30_filled.p1 k a vs 9 (i : Int) c s) (t, true) := by
    intro n
    induction n with
    | zero =>
      intro i hn hi s hs
      refine ⟨s, hs, Ev.succ ?_⟩
      simp only [erasurelaw30_filled.p1, decide_eq_true_eq]
      by_cases h : (i : Int) < (vs.length : Int)
      · exact Ev.ite_pos h (Ev.ite_neg (by omega) (Ev.now _))
      · exact Ev.ite_neg h (Ev.now _)
    | succ n ih =>
      intro i hn hi s hs
      by_cases h : i < vs.length
      · obtain ⟨h1, h2, h3⟩ := look_fill (vs.getD (i : Int).toNat dValue) ha hT hs
        obtain ⟨t, ht, hev⟩ := ih (i + 1) (by omega) (by omega) _ h1
        refine ⟨t, ht, Ev.succ ?_⟩
        simp only [erasurelaw30_filled.p1, decide_eq_true_eq, bne_iff_ne]
        have hsame : Ev (fun k => erasureref26_SameBag k (selS a c.f2 (clV (vs.getD (i : Int).toNat dValue))) (selS a c.f2 (clV (vs.getD (i : Int).toNat dValue)))) true := sameBag_self (selS_fin fa _ _)
        refine Ev.ite_pos (by omega) (Ev.ite_pos (by omega) (Ev.ite_pos (by omega) (Ev.bind (Lookup_ev c s a _ 9 (cacheV_fin hs.1) fa) (Ev.ite_neg (fun q => q h3) (Ev.bind (refSel_ev a c.f2 _ (by have := bagV_len ha; omega)) ?_)))))
        rw [h2]
        refine Ev.bind hsame (Ev.ite_neg (by simp) ?_)
        rw [wr (n := (i : Int) + 1) (by omega), show (i : Int) + 1 = ((i + 1 : Nat) : Int) from rfl]
        exact hev
      · refine ⟨s, hs, Ev.succ ?_⟩
        simp only [erasurelaw30_filled.p1, decide_eq_true_eq]
        exact Ev.ite_neg (by omega) (Ev.now _)
  obtain ⟨s, hs, h⟩ := key 12 0 (by omega) (by omega) [] ⟨rfl, fun x hx => by cases hx⟩
  exact ⟨s, hs, h⟩
theorem selS_nf {l : List TEntry} (h : NF l) (c : Int) (v : TValue) : NF (selS l c v) :=
  ⟨fun e he => h.1 e (List.mem_filter.1 he).1, fun e he => h.2.1 e (List.mem_filter.1 he).1, h.2.2.filter _⟩
theorem selS_cnt (l : List TEntry) (c : Int) (v : TValue) (r : List TValue) : cnt (selS l c v) r = if atV r c = v then cnt l r else 0 := by
  induction l with
  | nil => unfold selS; rw [List.filter_nil, cnt_nil]; split <;> rfl
  | cons e l ih =>
    unfold selS at ih ⊢
    rw [List.filter_cons, cnt_cons]
    by_cases h : atV e.f0 c = v
    · rw [if_pos (by simpa using h), cnt_cons, ih]
      by_cases q : e.f0 = r
      · subst q; rw [if_pos rfl, if_pos h, if_pos h]
      · rw [if_neg q]; split <;> omega
    · rw [if_neg (by simpa using h), ih]
      by_cases q : e.f0 = r
      · subst q; rw [if_neg h, if_neg h]
      · rw [if_neg q]; split <;> omega
theorem sel_same {a b : List TEntry} (ha : bagV a = true) (hb : bagV b = true) (c : Int) (v : TValue) (h1 : ∀ e ∈ subS a b, atV e.f0 c ≠ v) : selS a c v = selS b c v := by
  obtain ⟨a1, _, a3⟩ := bag_okRws ha
  obtain ⟨b1, _, b3⟩ := bag_okRws hb
  refine NF_ext (selS_nf a3 c v) (selS_nf b3 c v) (fun r hr => ?_)
  rw [selS_cnt, selS_cnt]
  by_cases h : atV r c = v
  · rw [if_pos h, if_pos h]
    have hc := (sumS_nf (a ++ negL b) (okRws_app a1 (negL_ok b1))).2 r hr
    rw [cnt_append, negL_cnt] at hc
    apply Classical.byContradiction
    intro hne
    obtain ⟨e, he, q⟩ := cnt_ex (L := sumS (a ++ negL b)) (r := r) (by omega)
    exact h1 e he (by rw [q]; exact h)
  · rw [if_neg h, if_neg h]
theorem fitS_zero {l : List TEntry} (h : (fitS l).2 = 0) : (fitS l).1 = l ∧ l.length ≤ 4096 := by
  unfold fitS at h ⊢
  split at h
  · simp at h
  · rename_i q
    rw [if_neg q]
    split at h
    · rename_i q2; rw [if_pos q2]; exact ⟨rfl, by omega⟩
    · simp at h
theorem touS_mem2 (m p : List TEntry) (c : Int) {e : TEntry} (he : e ∈ m ∨ e ∈ p) : atV e.f0 c ∈ touS m p c := by
  unfold touS
  rw [fold_mem]
  exact Or.inl (List.mem_map.2 ⟨e, List.mem_append.2 he, rfl⟩)
theorem touS_ok (m p : List TEntry) (c : Int) : ∀ v ∈ touS m p c, okV v = true := by
  have h := fold_ok (valsE (m ++ p) c) [] (valsE_ok _ c) (fun x hx => by cases hx) List.Pairwise.nil
  exact h.2
theorem fre_true {c : TCache} {t : List TCached} {b : List TEntry} (ht : cacheV t = true) (hb : bagV b = true) (h : ∀ x ∈ t, x.f1 = selS b c.f2 (clV x.f0)) : freS c t b = true := by
  unfold freS
  rw [ht, hb, List.all_eq_true.2 (fun x hx => decide_eq_true (h x hx))]; rfl
theorem CacheFresh_std (x0 : TCache) (x1 : T25) (x2 : (List TValue)) (h0 : (x0.f0.size ≤ maxLen ∧ (x0.f1.size ≤ maxLen ∧ ((Lit.int .i64 x0.f2).wf = true ∧ (Lit.int .i64 x0.f3).wf = true)))) (h1 : ((x1.f0.length ≤ maxLen ∧ ∀ e0 ∈ x1.f0, ((e0.f0.length ≤ maxLen ∧ ∀ e1 ∈ e0.f0, ((Lit.int .i64 e1.f0).wf = true ∧ ((Lit.int .i64 e1.f1).wf = true ∧ e1.f2.size ≤ maxLen))) ∧ (Lit.int .i64 e0.f1).wf = true)) ∧ (x1.f1.length ≤ maxLen ∧ ∀ e0 ∈ x1.f1, ((e0.f0.length ≤ maxLen ∧ ∀ e1 ∈ e0.f0, ((Lit.int .i64 e1.f0).wf = true ∧ ((Lit.int .i64 e1.f1).wf = true ∧ e1.f2.size ≤ maxLen))) ∧ (Lit.int .i64 e0.f1).wf = true)))) (h2 : (x2.length ≤ maxLen ∧ ∀ e0 ∈ x2, ((Lit.int .i64 e0.f0).wf = true ∧ ((Lit.int .i64 e0.f1).wf = true ∧ e0.f2.size ≤ maxLen)))) : ∃ k, erasurelaw30_CacheFresh k x0 x1 x2 = some true := by
  have fr0 := fin_of h1.1
  have fr1 := fin_of h1.2
  have hvl := h2.1
  simp only [maxLen] at hvl
  refine Ev.some (g := fun k => erasurelaw30_CacheFresh k x0 x1 x2) ?_
  unfold erasurelaw30_CacheFresh
  simp only [decide_eq_true_eq, bne_iff_ne, beq_iff_eq]
  refine Ev.bind (short_ev x1.f0 fr0.1) ?_
  cases s0 : (x1.f0.all (fun e => decide (e.f0.length ≤ 20)) && decide (x1.f0.length ≤ 40)) with
  | false => exact Ev.ite_pos rfl aw30
  | true =>
  refine Ev.ite_neg (by simp) (Ev.bind (short_ev x1.f1 fr1.1) ?_)
  cases s1 : (x1.f1.all (fun e => decide (e.f0.length ≤ 20)) && decide (x1.f1.length ≤ 40)) with
  | false => exact Ev.ite_pos rfl aw30
  | true =>
  simp only [Bool.and_eq_true, decide_eq_true_eq] at s0 s1
  refine Ev.ite_neg (by simp) ?_
  by_cases t1 : x0.f3 < 1
  · exact Ev.ite_pos t1 aw30
  refine Ev.ite_neg t1 ?_
  by_cases t2 : x0.f3 > 1000
  · exact Ev.ite_pos t2 aw30
  refine Ev.ite_neg t2 (Ev.bind (ref06_Normalize_ev x1.f0 (by omega)) (Ev.bind (ref06_Normalize_ev x1.f1 (by omega)) ?_))
  by_cases e0' : (normS x1.f0).2 ≠ 0
  · exact Ev.ite_pos e0' aw30
  have e0 : (normS x1.f0).2 = 0 := Decidable.not_not.1 e0'
  refine Ev.ite_neg (fun q => q e0) ?_
  by_cases e1' : (normS x1.f1).2 ≠ 0
  · exact Ev.ite_pos e1' aw30
  have e1 : (normS x1.f1).2 = 0 := Decidable.not_not.1 e1'
  refine Ev.ite_neg (fun q => q e1) ?_
  obtain ⟨n0, ba⟩ := normS_ok e0
  obtain ⟨n1, bb⟩ := normS_ok e1
  rw [n0, n1]
  have la : (sumS x1.f0).length ≤ 40 := by have := sumS_len x1.f0; omega
  have lb : (sumS x1.f1).length ≤ 40 := by have := sumS_len x1.f1; omega
  generalize sumS x1.f0 = a at ba la
  generalize sumS x1.f1 = b at bb lb
  obtain ⟨s, hs, hev⟩ := filled_ev x0 a x2 ba (by omega) (by omega)
  refine Ev.bind hev (Ev.bind (Subtract_ev a b ba bb) (Ev.bind (Subtract_ev b a bb ba) (Ev.ite_neg (by simp) ?_)))
  obtain ⟨a1, _, _⟩ := bag_okRws ba
  obtain ⟨b1, _, _⟩ := bag_okRws bb
  have hneg : (fitS (subS b a)).2 = (fitS (subS a b)).2 := by rw [sub_neg a1 b1, fit_neg]
  by_cases hg : (fitS (subS a b)).2 = 0
  · refine Ev.ite_neg (fun q => q hg) (Ev.ite_neg (fun q => q (by rw [hneg]; exact hg)) ?_)
    obtain ⟨m1, ml⟩ := fitS_zero hg
    obtain ⟨p1, pl⟩ := fitS_zero (by rw [hneg]; exact hg)
    rw [m1, p1]
    have hm := cacheV_mem hs.1
    have q1 : freS x0 s a = true := fre_true hs.1 ba (fun x hx => by rw [clV_ok (hm x hx).1]; exact (hs.2 x hx).1)
    have fs := cacheV_fin hs.1
    have fa := bagV_fin ba
    have fb := bagV_fin bb
    have htl := touS_len (subS a b) (subS b a) x0.f2
    have q2 : freS x0 (purS s (touS (subS a b) (subS b a) x0.f2)) b = true := by
      refine fre_true (purS_ok _ _) bb (fun x hx => ?_)
      unfold purS at hx
      rw [if_pos hs.1] at hx
      obtain ⟨hx1, hx2⟩ := List.mem_filter.1 hx
      rw [clV_ok (hm x hx1).1, (hs.2 x hx1).1]
      refine sel_same ba bb x0.f2 x.f0 (fun e he q => ?_)
      have hmem := touS_mem2 (subS a b) (subS b a) x0.f2 (Or.inl he)
      have hin : x.f0 ∈ (touS (subS a b) (subS b a) x0.f2).map clV := List.mem_map.2 ⟨_, hmem, by rw [clV_ok (touS_ok _ _ _ _ hmem)]; exact q⟩
      simp [hin] at hx2
    have q3 : freS x0 (refS x0 s b 10) b = true := by
      refine fre_true (refS_ok _ _ _ _) bb (fun y hy => ?_)
      unfold refS at hy
      split at hy
      · obtain ⟨x, hx, hxy⟩ := List.mem_filterMap.1 hy
        unfold refF at hxy
        split at hxy
        · cases hxy
        · rw [← Option.some.inj hxy]
      · cases hy
    have hlen : (refS x0 s b 10).length ≤ s.length := by
      unfold refS
      split
      · exact List.length_filterMap_le _ _
      · simp
    have r1 := Fresh_ev x0 s a fs fa
    rw [q1] at r1
    have r2 := Fresh_ev x0 (purS s (touS (subS a b) (subS b a) x0.f2)) b (cacheV_fin (purS_ok _ _)) fb
    rw [q2] at r2
    have r3 := Fresh_ev x0 (refS x0 s b 10) b (cacheV_fin (refS_ok _ _ _ _)) fb
    rw [q3] at r3
    refine Ev.bind r1 (Ev.ite_neg (by simp) (Ev.bind (touched_p1 x0.f2 _ _ (by omega) (by omega)) (Ev.bind (Purge_ev s _ fs (by omega)) (Ev.bind (Refill_ev x0 s b 10 fs fb) (Ev.bind r2 (Ev.ite_pos rfl (Ev.bind r3 (Ev.ite_pos rfl (Ev.ite_pos (show ((refS x0 s b 10).length : Int) ≤ (s.length : Int) by omega) aw30)))))))))
  · exact Ev.ite_pos hg (Ev.ite_pos hneg.symm (Ev.ite_pos rfl aw30))
end Go.Proofs.YtjhnpaenhdbhpacV
set_option linter.unusedVariables false
set_option linter.unusedSimpArgs false
set_option linter.constructorNameAsVariable false
namespace Go.Proofs.YtjhnpaenhdbhpacV
open Go Go.RowKit
def RepL (F : Nat → Prop) (w : World) : List AV → List Value → Prop
  | [], [] => True
  | a :: l, v :: m => Rep F w a v ∧ RepL F w l m
  | _, _ => False
theorem RepL.len {F : Nat → Prop} {w : World} : ∀ {l : List AV} {m : List Value}, RepL F w l m → l.length = m.length
  | [], [], _ => rfl
  | _ :: _, _ :: _, h => by simp [RepL.len h.2]
  | [], _ :: _, h => h.elim
  | _ :: _, [], h => h.elim
theorem RepL.get {F : Nat → Prop} {w : World} : ∀ {l : List AV} {m : List Value}, RepL F w l m → ∀ (i : Nat) (v : Value), m[i]? = some v → Rep F w (l.getD i .u) v
  | [], [], _, i, v, h => by simp at h
  | a :: l, u :: m, h, i, v, hv => by
    cases i with
    | zero =>
      simp only [List.getElem?_cons_zero, Option.some.injEq] at hv
      subst hv
      exact h.1
    | succ i => simpa using RepL.get h.2 i v (by simpa using hv)
  | [], _ :: _, h, _, _, _ => h.elim
  | _ :: _, [], h, _, _, _ => h.elim
theorem RepL.app {F : Nat → Prop} {w : World} : ∀ {l : List AV} {m : List Value} {l' : List AV} {m' : List Value}, RepL F w l m → RepL F w l' m' → RepL F w (l ++ l') (m ++ m')
  | [], [], _, _, _, k => k
  | _ :: _, _ :: _, _, _, h, k => ⟨h.1, RepL.app h.2 k⟩
  | [], _ :: _, _, _, h, _ => h.elim
  | _ :: _, [], _, _, h, _ => h.elim
theorem RepL.fv {F : Nat → Prop} {w : World} {κ : Nat → Value} {hp : List Ob} : ∀ {l : List AV} {m : List Value}, RepL F w l m → RelVs ⟨F, w, κ, hp⟩ (l.map .p) m
  | [], [], _ => by simp [RelVs]
  | a :: l, v :: m, h => by simp only [List.map_cons, RelVs]; exact ⟨v, m, rfl, by simp only [RelV]; exact h.1, RepL.fv h.2⟩
  | [], _ :: _, h => h.elim
  | _ :: _, [], h => h.elim
abbrev oldF (W : World) : Nat → Prop := fun b => b < W.heap.size
structure Op1 {α : Type} (P : Program) (t : TypeId) (c : α → List AV) (B : α → Prop) : Prop where mk ::
  out : ∀ {H : Type} (enc : TypeId × Value → H) (W : World) (fuel : Nat) (cs : List Value) (y : DataW H × List MemPlace), DataW.trod enc P W 0 (fun _ => true) true fuel t cs = some y → ∃ x, RepL (oldF W) W (c x) cs ∧ B x
theorem op1_int {P : Program} {t : TypeId} {k : IntKind} (ht : P.underlying t = some (.int k)) : Op1 P t (cI k) (fun n => (Lit.int k n).wf = true) := by
  constructor
  intro H enc W fuel cs y h
  obtain ⟨n, rfl, _, hw⟩ := DataW.trod_int ht h
  exact ⟨n, ⟨rfl, trivial⟩, hw⟩
theorem op1_string {P : Program} {t : TypeId} (ht : P.underlying t = some .string) : Op1 P t cS (fun s => s.size ≤ maxLen) := by
  constructor
  intro H enc W fuel cs y h
  obtain ⟨n, rfl, _, hs⟩ := DataW.trod_string ht h
  exact ⟨n, ⟨rfl, trivial⟩, hs⟩
theorem cell_add {W : World} {a : Addr} {n : Nat} {u : Value} (h : W.cell? (a.add n) = some u) : W.cell? ⟨a.block, a.off + n, none⟩ = some u := by
  unfold Addr.add at h
  split at h
  · rename_i hn
    subst hn
    have hs : a.spot = none := by
      unfold World.cell? at h
      split at h
      · split at h
        · cases h
        · rename_i hs; cases hq : a.spot with
          | none => rfl
          | some x => simp [hq] at hs
      · cases h
    cases a
    simp only at hs
    subst hs
    exact h
  · exact h
theorem spot_none {W : World} {a : Addr} {u : Value} (h : W.cell? a = some u) : a = ⟨a.block, a.off, none⟩ := by
  have hs : a.spot = none := by
    unfold World.cell? at h
    split at h
    · split at h
      · cases h
      · rename_i hs; cases hq : a.spot with
        | none => rfl
        | some x => simp [hq] at hs
    · cases h
  cases a
  simp only at hs
  subst hs
  rfl
theorem op1_slice {α : Type} {P : Program} {t e : TypeId} {sz : Nat} {c : α → List AV} (d : α) {B : α → Prop} (ht : P.underlying t = some (.slice e)) (hd : Op1 P e c B) (hc : P.cellsOf e = sz) (hs : ∀ x, (c x).length = sz) (h0 : 0 < sz) : Op1 P t (cL sz c d) (fun xs => xs.length ≤ maxLen ∧ ∀ x ∈ xs, B x) := by
  constructor
  intro H enc W fuel cs y h
  rcases DataW.trod_slice ht h with ⟨rfl, _⟩ | ⟨a, len, cap, elems, rest, n, _, rfl, _, _, hl, hm, hel, hat, _, _⟩
  · exact ⟨[], ⟨⟨none, 0, rfl, Nat.le_refl _, fun _ => rfl, .inl rfl⟩, trivial⟩, by simp [maxLen], fun x hx => by cases hx⟩
  · have key : ∀ i, i < len → ∃ x cs', cs'.length = sz ∧ RepL (oldF W) W (c x) cs' ∧ B x ∧ ∀ j u, cs'[j]? = some u → W.cell? (a.add (i * sz + j)) = some u := by
      intro i hi
      have h1 := hat i hi
      rw [List.getElem?_eq_getElem (by omega)] at h1
      obtain ⟨cs', h2, h3⟩ := Option.bind_eq_some_iff.1 h1
      obtain ⟨x, hk, hb⟩ := hd.out enc W n cs' _ h3
      have hlen : cs'.length = sz := by rw [← hs x, hk.len]
      refine ⟨x, cs', hlen, hk, hb, fun j u hu => ?_⟩
      rw [hc] at h2
      unfold World.cells? at h2
      rw [if_pos (Nat.zero_le _)] at h2
      have h4 := mapM_some_get h2 j j (by
        have := (List.getElem?_eq_some_iff.1 hu).1
        rw [hlen] at this
        simp [this])
      rw [hu] at h4
      have ha : (a.add (i * sz)).add j = a.add (i * sz + j) := by
        unfold Addr.add
        by_cases e1 : i * sz = 0 <;> by_cases e2 : j = 0 <;> simp [e1, e2, Nat.add_assoc]
      rw [ha] at h4
      exact h4
    have key2 : ∀ m, m ≤ len → ∃ xs : List α, xs.length = m ∧ (∀ x ∈ xs, B x) ∧ ∀ i x, xs[i]? = some x → ∃ cs', cs'.length = sz ∧ RepL (oldF W) W (c x) cs' ∧ ∀ j u, cs'[j]? = some u → W.cell? (a.add (i * sz + j)) = some u := by
      intro m
      induction m with
      | zero => intro _; exact ⟨[], rfl, fun x hx => (by cases hx), fun i x hx => by simp at hx⟩
      | succ m ih =>
        intro hm2
        obtain ⟨xs, h1, h2, h3⟩ := ih (by omega)
        obtain ⟨x, c', h4, h5, h6, h7⟩ := key m (by omega)
        refine ⟨xs ++ [x], by simp [h1], fun y hy => ?_, fun i y hy => ?_⟩
        · rcases List.mem_append.1 hy with hy | hy
          · exact h2 y hy
          · rw [List.mem_singleton.1 hy]; exact h6
        · rcases Nat.lt_or_ge i xs.length with hi | hi
          · rw [List.getElem?_append_left hi] at hy; exact h3 i y hy
          · have hi2 : i = xs.length := by
              have := (List.getElem?_eq_some_iff.1 hy).1
              simp at this
              omega
            subst hi2
            simp at hy
            subst hy
            rw [h1]
            exact ⟨c', h4, h5, h7⟩
    obtain ⟨xs, h1, h2, h3⟩ := key2 len (Nat.le_refl _)
    refine ⟨xs, ⟨⟨some a, cap, by rw [h1], by rw [h1]; omega, fun h => (nomatch h), ?_⟩, trivial⟩, by rw [h1]; simp only [maxLen] at hm ⊢; omega, h2⟩
    rcases Nat.eq_zero_or_pos len with hz | hz
    · left; rw [h1, hz]
    · right
      have hcell : ∀ i, i < len → ∀ j, j < sz → ∃ u, W.cell? (a.add (i * sz + j)) = some u ∧ Rep (oldF W) W ((c (xs.getD i d)).getD j .u) u := by
        intro i hi j hj
        have hxi : xs[i]? = some (xs.getD i d) := by rw [List.getD_eq_getElem?_getD, List.getElem?_eq_getElem (by omega)]; rfl
        obtain ⟨cs', k1, k2, k3⟩ := h3 i _ hxi
        have hcj : cs'[j]? = some (cs'[j]'(by omega)) := List.getElem?_eq_getElem (by omega)
        exact ⟨_, k3 j _ hcj, k2.get j _ hcj⟩
      obtain ⟨u0, hu0, _⟩ := hcell 0 hz 0 h0
      have ha0 : a.add (0 * sz + 0) = a := by simp [Addr.add]
      rw [ha0] at hu0
      refine ⟨a.block, a.off, by rw [← spot_none hu0], World.block_lt_of_cell? W a hu0, fun i hi j hj => ?_⟩
      rw [h1] at hi
      obtain ⟨u, k1, k2⟩ := hcell i hi j hj
      exact ⟨u, cell_add k1, k2⟩
structure OpFs {α : Type} (P : Program) (fs : List Field) (off sz : Nat) (c : α → List AV) (B : α → Prop) : Prop where mk ::
  out : ∀ {H : Type} (enc : TypeId × Value → H) (W : World) (fuel : Nat) (cs : List Value) (ys : List (DataW H × List MemPlace)), cs.length = off + sz → ys.length = fs.length →
    (∀ (i : Nat) (f : Field), fs[i]? = some f → DataW.trod enc P W 0 (fun _ => true) true fuel f.type ((cs.drop f.offset).take (P.cellsOf f.type)) = ys[i]?) → ∃ x, RepL (oldF W) W (c x) (cs.drop off) ∧ B x
theorem opFs_one {α : Type} {P : Program} {f : Field} {off sz : Nat} {c : α → List AV} {B : α → Prop} (ho : f.offset = off) (hc : P.cellsOf f.type = sz) (hd : Op1 P f.type c B) : OpFs P [f] off sz c B := by
  constructor
  intro H enc W fuel cs ys hl hy h
  have h0 := h 0 f rfl
  rw [List.getElem?_eq_getElem (by rw [hy]; exact Nat.zero_lt_one), ho, hc, List.take_of_length_le (by rw [List.length_drop]; omega)] at h0
  exact hd.out enc W fuel _ _ h0
theorem opFs_cons {α β : Type} {P : Program} {f : Field} {fs : List Field} {off sa sb : Nat} {a : α → List AV} {b : β → List AV} {Ba : α → Prop} {Bb : β → Prop} (ho : f.offset = off) (hc : P.cellsOf f.type = sa) (hd : Op1 P f.type a Ba) (hs : OpFs P fs (off + sa) sb b Bb) :
    OpFs P (f :: fs) off (sa + sb) (fun x : α × β => a x.1 ++ b x.2) (fun x => Ba x.1 ∧ Bb x.2) := by
  constructor
  intro H enc W fuel cs ys hl hy h
  cases ys with
  | nil => simp at hy
  | cons y ys =>
    have h0 := h 0 f rfl
    rw [ho, hc] at h0
    obtain ⟨x, hx, hbx⟩ := hd.out enc W fuel _ _ h0
    obtain ⟨z, hz, hbz⟩ := hs.out enc W fuel cs ys (by omega) (by simpa using hy) (fun i g hg => h (i + 1) g hg)
    refine ⟨(x, z), ?_, hbx, hbz⟩
    have e : cs.drop off = (cs.drop off).take sa ++ cs.drop (off + sa) := by rw [← List.drop_drop, List.take_append_drop]
    rw [e]
    exact hx.app hz
theorem op1_struct {α β : Type} {P : Program} {t : TypeId} {fs : Array Field} {sz : Nat} {c : β → List AV} {B : β → Prop} (c' : α → List AV) (B' : α → Prop) (g : β → α) (hc' : ∀ y, c' (g y) = c y) (hB : ∀ y, B y → B' (g y)) (ht : P.underlying t = some (.struct fs)) (hc : P.cellsOf t = sz) (hs : OpFs P fs.toList 0 sz c B) :
    Op1 P t c' B' := by
  constructor
  intro H enc W fuel cs y h
  obtain ⟨xs, n, _, _, hl, hx, hi⟩ := DataW.trod_struct ht h
  obtain ⟨x, hk, hb⟩ := hs.out enc W n cs xs (by rw [hl, hc]; omega) (by rw [hx]; simp) (fun i f hf => hi i f (by simpa using hf))
  refine ⟨g x, ?_, hB x hb⟩
  rw [hc']
  simpa using hk
theorem okWide_array {P : Program} {w : World} {r : Reach} {base : Nat} {t e : TypeId} {n : Nat} {v : Value} (ht : P.underlying t = some (.array n e)) (h : Value.okWide P w r base t v) : ∃ cs, v = .agg cs ∧ cs.size = P.cellsOf t := by
  simp only [Value.okWide, ht] at h
  obtain ⟨cs, h1, h2, _⟩ := h
  exact ⟨cs, h1, h2⟩
def fkF (e o : Nat) : Field := { (default : Field) with type := e, offset := o }
theorem op1_array {α β : Type} {P : Program} {t e : TypeId} {n : Nat} {sz : Nat} {c : β → List AV} {B : β → Prop} (fs : List Field) (c' : α → List AV) (B' : α → Prop) (g : β → α) (hc' : ∀ y, c' (g y) = c y) (hB : ∀ y, B y → B' (g y)) (ht : P.underlying t = some (.array n e)) (hfs : fs = (List.range n).map fun i => fkF e (i * P.cellsOf e)) (hc : P.cellsOf t = sz) (hs : OpFs P fs 0 sz c B) :
    Op1 P t c' B' := by
  constructor
  intro H enc W fuel cs y h
  obtain ⟨xs, m, _, _, hl, hx, hi⟩ := DataW.trod_array ht h
  obtain ⟨x, hk, hb⟩ := hs.out enc W m cs xs (by rw [hl, hc]; omega) (by rw [hx, hfs]; simp) (fun i f hf => by
    rw [hfs, List.getElem?_map] at hf
    have hin : i < n := by
      rcases Nat.lt_or_ge i n with h | h
      · exact h
      · rw [List.getElem?_eq_none (by simpa using h)] at hf; cases hf
    rw [List.getElem?_range hin] at hf
    simp only [Option.map_some, Option.some.injEq] at hf
    subst hf
    exact hi i hin)
  refine ⟨g x, ?_, hB x hb⟩
  rw [hc']
  simpa using hk
theorem chg_below {w w' : World} (h : Chg (fun _ => False) w w') : Below w.heap.size w w' := ⟨h.os, h.tape, h.output, h.size, fun k hk => h.block k hk (fun h => h)⟩
theorem Spec.law {P : Program} {f : FuncId} {args : List FV} (h : Spec P f args (.p (.bool true)) []) {W : World} {vs : Array Value} (hv : RelVs ⟨oldF W, W, fun _ => undef, []⟩ args vs.toList) : Calls P f vs W fun e W' => e = .returned (.bool true) ∧ Below W.heap.size W W' := by
  refine (h W (oldF W) (fun _ => undef) vs (fun _ h => h) hv).mono fun e W' ⟨v, F', κ', he, hI, hr⟩ => ⟨?_, chg_below hI.chg⟩
  simp only [RelV, Rep] at hr
  rw [he, hr]
end Go.Proofs.YtjhnpaenhdbhpacV
