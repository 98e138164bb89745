/- Part of the proof of CacheFresh: printed by programs of this repo out of the translation, and by hand. Each theorem's conditions stand in its statement. -/
import Derived.Orders
import Derived.Below
import Derived.Laws.AppendOwn
import Derived.Laws.OwnMore
import Derived.KernelRfl
import Derived.Deep.MidRow
import Derived.Laws.StructEq
import Derived.Laws.Entries
import Derived.IntWalk
import Derived.Laws.CopyOwn
import Derived.Great.BuildSlice
import Derived.Laws.Slices
set_option linter.unusedVariables false
set_option linter.unusedSimpArgs false
set_option linter.constructorNameAsVariable false
namespace Go.Proofs.YtjhnpaenhdbhpacV
open Go Go.RowKit
inductive AV where
  | u
  | bool (b : Bool)
  | int (k : IntKind) (n : Int)
  | str (s : ByteArray)
  | sl (sz n : Nat) (f : Nat → Nat → AV)
inductive FV where
  | u
  | und
  | nil
  | p (a : AV)
  | agg (cs : List FV)
  | sref (id e sz n : Nat)
  | ssub (id e sz lo n : Nat)
  | ptr (id i j : Nat)
  | vptr (m : Nat) (f : Nat → AV)
  | fn (f : Nat) (caps : List FV)
  | tup (vs : List FV)
  | mref (id m : Nat)
inductive PV where
  | one (a : AV)
  | many (l : List AV)
def PV.fv : PV → FV
  | .one a => .p a
  | .many l => .agg (l.map .p)
inductive Rg where
  | map (es : List (PV × PV))
  | iter (m n : Nat) (seen : List Nat) (cur : Option Nat)
  | gone
inductive Ob where
  | free
  | dead
  | arr (own : Bool) (e sz n : Nat) (f : Nat → Nat → AV)
  | box (cs : List FV)
  | reg (g : Rg)
def look (hp : List Ob) (id : Nat) : Ob := hp.getD id .free
def Ob.mut : Ob → Bool
  | .arr own _ _ _ _ => own
  | .box _ => true
  | .reg _ => true
  | _ => false
def blk : Value → Option Nat
  | .slice (some a) _ _ => some a.block
  | .pointer (some a) => some a.block
  | .map (some b) => some b
  | _ => none
def Rep (F : Nat → Prop) (w : World) : AV → Value → Prop
  | .u, v => v.oneCell' = true
  | .bool b, v => v = .bool b
  | .int k n, v => v = .int k n
  | .str s, v => v = .string s
  | .sl sz n f, v => ∃ base cap, v = .slice base n cap ∧ n ≤ cap ∧ (base = none → cap = 0) ∧ (n = 0 ∨ ∃ b o, base = some ⟨b, o, none⟩ ∧ F b ∧ ∀ i, i < n → ∀ j, j < sz → ∃ c, w.cell? ⟨b, o + (i * sz + j), none⟩ = some c ∧ Rep F w (f i j) c)
theorem Rep.one {F : Nat → Prop} {w : World} {a : AV} {v : Value} (h : Rep F w a v) : v.oneCell' = true := by
  cases a with
  | u => exact h
  | bool b => rw [show v = .bool b from h]; rfl
  | int k n => rw [show v = .int k n from h]; rfl
  | str s => rw [show v = .string s from h]; rfl
  | sl sz n f => obtain ⟨b, c, rfl, _⟩ := h; rfl
theorem cell_of_heap {w w' : World} {b o : Nat} (h : w'.heap[b]? = w.heap[b]?) : w'.cell? ⟨b, o, none⟩ = w.cell? ⟨b, o, none⟩ := World.cell?_of_block (a := ⟨b, o, none⟩) h
theorem Rep.mono {F F' : Nat → Prop} {w w' : World} (hF : ∀ b, F b → F' b) (hw : ∀ b, F b → w'.heap[b]? = w.heap[b]?) : ∀ (a : AV) (v : Value), Rep F w a v → Rep F' w' a v := by
  intro a
  induction a with
  | u => exact fun v h => h
  | bool b => exact fun v h => h
  | int k n => exact fun v h => h
  | str s => exact fun v h => h
  | sl sz n f ih =>
    rintro v ⟨base, cap, rfl, hc, hz, h⟩
    refine ⟨base, cap, rfl, hc, hz, ?_⟩
    rcases h with h | ⟨b, o, rfl, hb, h⟩
    · exact .inl h
    · refine .inr ⟨b, o, rfl, hF b hb, fun i hi j hj => ?_⟩
      obtain ⟨c, h1, h2⟩ := h i hi j hj
      exact ⟨c, by rw [cell_of_heap (hw b hb)]; exact h1, ih i j c h2⟩
def RefS (o : Ob) (kv : Value) (e sz n : Nat) (v : Value) : Prop :=
  match o with
  | .free => False
  | .dead => True
  | .arr _ e' sz' n' _ => e' = e ∧ sz' = sz ∧ n' = n ∧ v = kv
  | .box _ => False
  | .reg _ => False
def RefB (o : Ob) (kv : Value) (e sz lo n : Nat) (v : Value) : Prop :=
  match o with
  | .free => False
  | .dead => True
  | .arr _ e' sz' m _ => e' = e ∧ sz' = sz ∧ lo + n ≤ m ∧ ∃ b cap, kv = .slice b m cap ∧ v = .slice (if cap = lo then b else b.map (·.add (lo * sz))) n (cap - lo)
  | .box _ => False
  | .reg _ => False
def RefM (o : Ob) (kv : Value) (v : Value) : Prop :=
  match o with
  | .dead => True
  | .reg _ => v = kv
  | _ => False
def RefP (o : Ob) (kv : Value) (i j : Nat) (a : Addr) : Prop :=
  match o with
  | .free => False
  | .dead => True
  | .arr _ _ sz n _ => i < n ∧ ∃ b c, kv = .slice (some ⟨b, 0, none⟩) n c ∧ a = ⟨b, i * sz + j, none⟩
  | .box _ => i = 0 ∧ ∃ b, kv = .pointer (some ⟨b, 0, none⟩) ∧ a = ⟨b, j, none⟩
  | .reg _ => False
structure Cx where
  F : Nat → Prop
  w : World
  κ : Nat → Value
  hp : List Ob
mutual
def RelV (c : Cx) : FV → Value → Prop
  | .u, _ => True
  | .und, v => v = undef
  | .nil, v => v = .slice none 0 0
  | .p a, v => Rep c.F c.w a v
  | .agg cs, v => ∃ vs : Array Value, v = .agg vs ∧ RelVs c cs vs.toList
  | .sref id e sz n, v => (∃ base cap, v = .slice base n cap ∧ (n = 0 ∨ ∃ a, base = some a)) ∧ RefS (look c.hp id) (c.κ id) e sz n v
  | .ssub id e sz lo n, v => (∃ base cap, v = .slice base n cap) ∧ RefB (look c.hp id) (c.κ id) e sz lo n v
  | .ptr id i j, v => ∃ a, v = .pointer (some a) ∧ RefP (look c.hp id) (c.κ id) i j a
  | .vptr m f, v => ∃ b o, v = .pointer (some ⟨b, o, none⟩) ∧ (m = 0 ∨ c.F b) ∧ ∀ j, j < m → ∃ x, c.w.cell? ⟨b, o + j, none⟩ = some x ∧ Rep c.F c.w (f j) x
  | .fn f caps, v => ∃ vs : Array Value, v = .func (.func f) #[] vs ∧ RelVs c caps vs.toList
  | .tup us, v => ∃ vs : Array Value, v = .tuple vs ∧ RelVs c us vs.toList
  | .mref id mm, v => v.oneCell' = true ∧ RefM (look c.hp id) (c.κ id) v
def RelVs (c : Cx) : List FV → List Value → Prop
  | [], vs => vs = []
  | x :: xs, vs => ∃ v vs', vs = v :: vs' ∧ RelV c x v ∧ RelVs c xs vs'
end
def OLe (o o' : Ob) (v v' : Value) : Prop :=
  match o with
  | .free => True
  | .dead => o' = .dead
  | .arr _ e sz n _ => o' = .dead ∨ (v' = v ∧ ∃ own f, o' = .arr own e sz n f)
  | .box _ => o' = .dead ∨ (v' = v ∧ ∃ cs, o' = .box cs)
  | .reg _ => o' = .dead ∨ (v' = v ∧ ∃ g, o' = .reg g)
theorem OLe.refl (o : Ob) (v : Value) : OLe o o v v := by cases o <;> simp [OLe]
structure Le (c c' : Cx) : Prop where
  F : ∀ b, c.F b → c'.F b
  w : ∀ b, c.F b → c'.w.heap[b]? = c.w.heap[b]?
  o : ∀ id, OLe (look c.hp id) (look c'.hp id) (c.κ id) (c'.κ id)
theorem RefS.keep {o o' : Ob} {k k' v : Value} {e sz n : Nat} (h : OLe o o' k k') (r : RefS o k e sz n v) : RefS o' k' e sz n v := by
  cases o with
  | free => exact r.elim
  | dead => rw [show o' = .dead from h]; trivial
  | arr own e1 sz1 n1 f =>
    rcases h with rfl | ⟨rfl, own', f', rfl⟩
    · trivial
    · exact r
  | box cs => exact r.elim
  | reg g => exact r.elim
theorem RefM.keep {o o' : Ob} {k k' v : Value} (h : OLe o o' k k') (r : RefM o k v) : RefM o' k' v := by
  cases o with
  | free => exact r.elim
  | dead => rw [show o' = .dead from h]; trivial
  | arr own e1 sz1 n1 f => exact r.elim
  | box cs => exact r.elim
  | reg g =>
    rcases h with rfl | ⟨rfl, g', rfl⟩
    · trivial
    · exact r
theorem RefB.keep {o o' : Ob} {k k' v : Value} {e sz lo n : Nat} (h : OLe o o' k k') (r : RefB o k e sz lo n v) : RefB o' k' e sz lo n v := by
  cases o with
  | free => exact r.elim
  | dead => rw [show o' = .dead from h]; trivial
  | arr own e1 sz1 n1 f =>
    rcases h with rfl | ⟨rfl, own', f', rfl⟩
    · trivial
    · exact r
  | box cs => exact r.elim
  | reg g => exact r.elim
theorem RefP.keep {o o' : Ob} {k k' : Value} {i j : Nat} {a : Addr} (h : OLe o o' k k') (r : RefP o k i j a) : RefP o' k' i j a := by
  cases o with
  | free => exact r.elim
  | dead => rw [show o' = .dead from h]; trivial
  | arr own e1 sz1 n1 f =>
    rcases h with rfl | ⟨rfl, own', f', rfl⟩
    · trivial
    · exact r
  | box cs =>
    rcases h with rfl | ⟨rfl, cs', rfl⟩
    · trivial
    · exact r
  | reg g => exact r.elim
mutual
theorem RelV.keep {c c' : Cx} (h : Le c c') : ∀ (x : FV) (v : Value), RelV c x v → RelV c' x v
  | .u, v, _ => by simp [RelV]
  | .und, v, r => by simpa [RelV] using r
  | .nil, v, r => by simpa [RelV] using r
  | .p a, v, r => by
    simp only [RelV] at r ⊢
    exact Rep.mono h.F h.w a v r
  | .agg cs, v, r => by
    simp only [RelV] at r ⊢
    obtain ⟨vs, hv, hr⟩ := r
    exact ⟨vs, hv, RelVs.keep h cs _ hr⟩
  | .sref id e sz n, v, r => by
    simp only [RelV] at r ⊢
    exact ⟨r.1, r.2.keep (h.o id)⟩
  | .ssub id e sz lo n, v, r => by
    simp only [RelV] at r ⊢
    exact ⟨r.1, r.2.keep (h.o id)⟩
  | .ptr id i j, v, r => by
    simp only [RelV] at r ⊢
    obtain ⟨a, hv, hr⟩ := r
    exact ⟨a, hv, hr.keep (h.o id)⟩
  | .vptr m f, v, r => by
    simp only [RelV] at r ⊢
    obtain ⟨b, o, hv, hb, hr⟩ := r
    refine ⟨b, o, hv, hb.imp id (h.F b), fun j hj => ?_⟩
    obtain ⟨x, h1, h2⟩ := hr j hj
    have hfb := hb.resolve_left (by omega)
    exact ⟨x, by rw [cell_of_heap (h.w b hfb)]; exact h1, Rep.mono h.F h.w _ _ h2⟩
  | .fn f caps, v, r => by
    simp only [RelV] at r ⊢
    obtain ⟨vs, hv, hr⟩ := r
    exact ⟨vs, hv, RelVs.keep h caps _ hr⟩
  | .tup us, v, r => by
    simp only [RelV] at r ⊢
    obtain ⟨vs, hv, hr⟩ := r
    exact ⟨vs, hv, RelVs.keep h us _ hr⟩
  | .mref id mm, v, r => by
    simp only [RelV] at r ⊢
    exact ⟨r.1, r.2.keep (h.o id)⟩
theorem RelVs.keep {c c' : Cx} (h : Le c c') : ∀ (xs : List FV) (vs : List Value), RelVs c xs vs → RelVs c' xs vs
  | [], vs, r => by simpa [RelVs] using r
  | x :: xs, vs, r => by
    simp only [RelVs] at r ⊢
    obtain ⟨v, vs', hv, h1, h2⟩ := r
    exact ⟨v, vs', hv, RelV.keep h x v h1, RelVs.keep h xs vs' h2⟩
end
theorem RelVs.length {c : Cx} : ∀ {xs : List FV} {vs : List Value}, RelVs c xs vs → vs.length = xs.length
  | [], vs, r => by simp only [RelVs] at r; rw [r]; rfl
  | x :: xs, vs, r => by
    simp only [RelVs] at r
    obtain ⟨v, vs', rfl, _, h⟩ := r
    simp [h.length]
theorem RelVs.get {c : Cx} : ∀ {xs : List FV} {vs : List Value}, RelVs c xs vs → ∀ i, (h : i < xs.length) → ∃ v, vs[i]? = some v ∧ RelV c xs[i] v
  | [], vs, r, i, h => by simp at h
  | x :: xs, vs, r, i, h => by
    simp only [RelVs] at r
    obtain ⟨v, vs', rfl, hv, hs⟩ := r
    cases i with
    | zero => exact ⟨v, rfl, hv⟩
    | succ i =>
      obtain ⟨y, h1, h2⟩ := hs.get i (by simpa using h)
      exact ⟨y, by simpa using h1, by simpa using h2⟩
theorem RelVs.of_get {c : Cx} : ∀ {xs : List FV} {vs : List Value}, vs.length = xs.length → (∀ i v, vs[i]? = some v → ∀ h : i < xs.length, RelV c xs[i] v) → RelVs c xs vs
  | [], vs, hl, _ => by simp only [RelVs]; exact List.eq_nil_of_length_eq_zero hl
  | x :: xs, vs, hl, hg => by
    cases vs with
    | nil => simp at hl
    | cons v vs =>
      simp only [RelVs]
      refine ⟨v, vs, rfl, hg 0 v rfl (by simp), RelVs.of_get (by simpa using hl) fun i y hy h => ?_⟩
      have := hg (i + 1) y (by simpa using hy) (by simpa using h)
      simpa using this
theorem RelVs.append {c : Cx} : ∀ {xs : List FV} {vs : List Value} {ys : List FV} {us : List Value}, RelVs c xs vs → RelVs c ys us → RelVs c (xs ++ ys) (vs ++ us)
  | [], vs, ys, us, r, k => by simp only [RelVs] at r; subst r; exact k
  | x :: xs, vs, ys, us, r, k => by
    simp only [RelVs] at r
    obtain ⟨v, vs', rfl, hv, hs⟩ := r
    simp only [List.cons_append, RelVs]
    exact ⟨v, vs' ++ us, rfl, hv, hs.append k⟩
theorem RelVs.set {c : Cx} {x : FV} {v : Value} (hx : RelV c x v) : ∀ {xs : List FV} {vs : List Value} (_ : RelVs c xs vs) (i : Nat), RelVs c (xs.set i x) (vs.set i v)
  | [], vs, r, i => by simp only [RelVs] at r; subst r; simp [RelVs]
  | y :: ys, vs, r, i => by
    simp only [RelVs] at r
    obtain ⟨u, vs', rfl, hu, hs⟩ := r
    cases i with
    | zero => simp only [List.set_cons_zero, RelVs]; exact ⟨v, vs', rfl, hx, hs⟩
    | succ i => simp only [List.set_cons_succ, RelVs]; exact ⟨u, vs'.set i v, rfl, hu, RelVs.set hx hs i⟩
def RelG (c : Cx) (v : Value) (b : Nat) : Rg → Prop
  | .map es => v = .map (some b) ∧ ∃ ents : Array MapEntry, c.w.heap[b]? = some (.map ents ents.size) ∧ RelVs c (es.map (·.1.fv)) (ents.toList.map (·.key)) ∧ RelVs c (es.map (·.2.fv)) (ents.toList.map (·.val)) ∧ (∀ (i : Nat) (x : MapEntry), ents[i]? = some x → x.born = i)
  | .iter m n seen cur => v = .pointer (some ⟨b, 0, none⟩) ∧ ∃ bm, RelV c (.mref m m) (.map (some bm)) ∧ c.w.heap[b]? = some (.mapIter (some bm) n seen.toArray n) ∧ ∀ i, cur = some i → seen.toArray.back? = some i
  | .gone => True
def RelO (c : Cx) (v : Value) : Ob → Prop
  | .free => True
  | .dead => True
  | .arr own e sz n f => 0 < sz ∧ ∃ xs, c.w.ownsRow 0 e sz v n xs ∧ (∀ i, i < n → ∀ j, j < sz → ∃ x, xs[i * sz + j]? = some x ∧ Rep c.F c.w (f i j) x) ∧ (∀ u, u ∈ xs → u.oneCell' = true) ∧ ∀ b, blk v = some b → (own = true → ¬ c.F b) ∧ (own = false → c.F b)
  | .box cs => ∃ b C t, v = .pointer (some ⟨b, 0, none⟩) ∧ c.w.heap[b]? = some (.cells C t (0, 0)) ∧ ¬ c.F b ∧ (∀ u, u ∈ C → u.oneCell' = true) ∧ RelVs c cs C.toList
  | .reg g => ∃ b, blk v = some b ∧ b < c.w.heap.size ∧ ¬ c.F b ∧ RelG c v b g
structure En where
  w : World
  F : Nat → Prop
  M : Nat → Prop
  fx : Nat → Value → Prop
structure Chg (M : Nat → Prop) (w w' : World) : Prop where
  os : w'.os = w.os
  tape : w'.tape = w.tape
  output : w'.output = w.output
  drawn : w.drawn ≤ w'.drawn
  size : w.heap.size ≤ w'.heap.size
  block : ∀ b, b < w.heap.size → ¬ M b → w'.heap[b]? = w.heap[b]?
theorem Chg.refl (M : Nat → Prop) (w : World) : Chg M w w := ⟨rfl, rfl, rfl, Nat.le_refl _, Nat.le_refl _, fun _ _ _ => rfl⟩
structure Inv (E : En) (c : Cx) : Prop where
  chg : Chg E.M E.w c.w
  f0 : ∀ b, E.F b → c.F b
  f1 : ∀ b, c.F b → E.F b ∨ E.M b ∨ E.w.heap.size ≤ b
  lt : ∀ b, c.F b → b < c.w.heap.size
  objs : ∀ id, RelO c (c.κ id) (look c.hp id)
  inj : ∀ i j b, (look c.hp i).mut = true → (look c.hp j).mut = true → blk (c.κ i) = some b → blk (c.κ j) = some b → i = j
  own : ∀ i b, (look c.hp i).mut = true → blk (c.κ i) = some b → E.M b ∨ E.w.heap.size ≤ b
end Go.Proofs.YtjhnpaenhdbhpacV
set_option linter.unusedVariables false
set_option linter.unusedSimpArgs false
set_option linter.constructorNameAsVariable false
namespace Go.Proofs.YtjhnpaenhdbhpacV
open Go Go.RowKit
structure St where
  fr : List FV
  hp : List Ob
inductive Hn where
  | no
  | dec (b : Bool)
  | call (res : FV) (H : List Ob)
  | callL (ays : List FV) (res : FV) (H : List Ob)
  | callX (ids outs : List Nat) (res : FV) (H : List Ob)
  | obj (o : Ob)
  | av (a : AV)
  | fv (x : FV)
  | cobj (o : Ob)
  | mp (es : List (PV × PV))
structure Rs where
  r : FV
  ups : List (Nat × Ob)
  obs : Option Prop
def Rs.ob (rs : Rs) : Prop :=
  match rs.obs with
  | some p => p
  | none => True
def constF : Value → FV
  | .bool b => .p (.bool b)
  | .int k n => .p (.int k n)
  | .string s => .p (.str s)
  | .slice none 0 0 => .nil
  | _ => .u
def valF (fr : List FV) : Operand → FV
  | .tmp t => fr.getD t .u
  | .const v => constF v
  | .func f => .fn f []
  | .global _ => .u
def FV.ok1 : FV → Bool
  | .p _ | .nil | .sref .. | .ssub .. | .ptr .. | .vptr .. | .fn .. | .mref .. => true
  | _ => false
def cellsF : FV → Option (List FV)
  | .agg cs => if cs.all (·.ok1) then some cs else none
  | x => if x.ok1 then some [x] else none
def Program.isSt (P : Program) (t : TypeId) : Bool :=
  match P.underlying t with
  | some (.struct _) | some (.array _ _) => true
  | _ => false
def toAV (lk : Nat → Ob) : FV → Option AV
  | .p a => some a
  | .nil => some (.sl 1 0 fun _ _ => .u)
  | .sref id _ _ _ => match lk id with
    | .arr _ _ sz n f => some (.sl sz n f)
    | _ => none
  | .ssub id _ _ lo k => match lk id with
    | .arr _ _ sz _ f => some (.sl sz k fun a b => f (lo + a) b)
    | _ => none
  | _ => none
def frz (lk : Nat → Ob) : FV → List (Nat × Ob)
  | .sref id _ _ _ => match lk id with
    | .arr _ e sz n f => [(id, .arr false e sz n f)]
    | _ => []
  | .ssub id _ _ _ _ => match lk id with
    | .arr _ e sz n f => [(id, .arr false e sz n f)]
    | _ => []
  | _ => []
def toAVs (lk : Nat → Ob) : List FV → Option (List AV)
  | [] => some []
  | x :: xs => match toAV lk x with
    | some a => match toAVs lk xs with
      | some ays => some (a :: ays)
      | none => none
    | none => none
def frzs (lk : Nat → Ob) : List FV → List (Nat × Ob)
  | [] => []
  | x :: xs => frz lk x ++ frzs lk xs
def setUps (hp : List Ob) (ups : List (Nat × Ob)) : List Ob := ups.foldl (fun h p => h.set p.1 p.2) hp
def Ob.froze : Ob → Ob
  | .arr _ e sz n f => .arr false e sz n f
  | o => o
theorem look_set (hp : List Ob) (i : Nat) (o : Ob) (j : Nat) : look (hp.set i o) j = if i = j ∧ i < hp.length then o else look hp j := by
  unfold look
  rw [List.getD_eq_getElem?_getD, List.getD_eq_getElem?_getD, List.getElem?_set]
  by_cases h : i = j
  · subst h
    by_cases hl : i < hp.length
    · simp [hl]
    · simp [hl]
  · simp [h]
theorem look_lt {hp : List Ob} {i : Nat} (h : look hp i ≠ .free) : i < hp.length := by
  rcases Nat.lt_or_ge i hp.length with h' | h'
  · exact h'
  · exact absurd (by simp [look, List.getElem?_eq_none h']) h
theorem look_set_same {hp : List Ob} {i : Nat} (o : Ob) (h : i < hp.length) : look (hp.set i o) i = o := by rw [look_set, if_pos ⟨rfl, h⟩]
theorem look_set_ne {hp : List Ob} {i j : Nat} (o : Ob) (h : i ≠ j) : look (hp.set i o) j = look hp j := by rw [look_set, if_neg (fun e => h e.1)]
theorem Le.set {c : Cx} {i : Nat} {o : Ob} (h : OLe (look c.hp i) o (c.κ i) (c.κ i)) : Le c { c with hp := c.hp.set i o } := by
  refine ⟨fun _ h => h, fun _ _ => rfl, fun id => ?_⟩
  show OLe (look c.hp id) (look (c.hp.set i o) id) _ _
  rw [look_set]
  split
  · rename_i e; obtain ⟨rfl, _⟩ := e; exact h
  · exact OLe.refl _ _
theorem Le.trans {a b c : Cx} (h : Le a b) (k : Le b c) : Le a c := by
  refine ⟨fun x hx => k.F x (h.F x hx), fun x hx => (k.w x (h.F x hx)).trans (h.w x hx), fun id => ?_⟩
  have h1 := h.o id
  have h2 := k.o id
  cases ho : look a.hp id with
  | free => trivial
  | dead =>
    rw [ho] at h1
    rw [show look b.hp id = .dead from h1] at h2
    exact h2
  | arr own e sz n f =>
    rw [ho] at h1
    rcases h1 with h1 | ⟨e1, own', f', h1⟩
    · rw [h1] at h2; exact .inl h2
    · rw [h1] at h2
      rcases h2 with h2 | ⟨e2, own'', f'', h2⟩
      · exact .inl h2
      · exact .inr ⟨e2.trans e1, own'', f'', h2⟩
  | box cs =>
    rw [ho] at h1
    rcases h1 with h1 | ⟨e1, cs', h1⟩
    · rw [h1] at h2; exact .inl h2
    · rw [h1] at h2
      rcases h2 with h2 | ⟨e2, cs'', h2⟩
      · exact .inl h2
      · exact .inr ⟨e2.trans e1, cs'', h2⟩
  | reg g =>
    rw [ho] at h1
    rcases h1 with h1 | ⟨e1, g', h1⟩
    · rw [h1] at h2; exact .inl h2
    · rw [h1] at h2
      rcases h2 with h2 | ⟨e2, g'', h2⟩
      · exact .inl h2
      · exact .inr ⟨e2.trans e1, g'', h2⟩
theorem Le.refl (c : Cx) : Le c c := ⟨fun _ h => h, fun _ _ => rfl, fun id => OLe.refl _ _⟩
theorem RelG.keep {c c' : Cx} (h : Le c c') {v : Value} {b : Nat} {g : Rg} (hw : c'.w.heap[b]? = c.w.heap[b]?) (r : RelG c v b g) : RelG c' v b g := by
  cases g with
  | map es =>
    obtain ⟨h1, ents, h2, h3, h4, h5⟩ := r
    exact ⟨h1, ents, by rw [hw]; exact h2, RelVs.keep h _ _ h3, RelVs.keep h _ _ h4, h5⟩
  | iter m n seen cur =>
    obtain ⟨h1, bm, h2, h3, h4⟩ := r
    exact ⟨h1, bm, RelV.keep h _ _ h2, by rw [hw]; exact h3, h4⟩
  | gone => trivial
theorem RelO.keep {c c' : Cx} (h : Le c c') {v : Value} {o : Ob} (r : RelO c v o) (hw : ∀ b, blk v = some b → c'.w.heap[b]? = c.w.heap[b]?) (hF : ∀ b, blk v = some b → o.mut = true → ¬ c'.F b) : RelO c' v o := by
  cases o with
  | free => trivial
  | dead => trivial
  | arr own e sz n f =>
    obtain ⟨h0, xs, h1, h2, h3, h4⟩ := r
    refine ⟨h0, xs, ?_, fun i hi j hj => ?_, h3, fun b hb => ⟨fun ho => ?_, fun ho => ?_⟩⟩
    · obtain ⟨hl, h1⟩ := h1
      refine ⟨hl, ?_⟩
      rcases h1 with h1 | ⟨g, cap, cur, rfl, hb, hg, rest⟩
      · exact .inl h1
      · exact .inr ⟨g, cap, cur, rfl, hb, by rw [hw g rfl]; exact hg, rest⟩
    · obtain ⟨x, hx, hr⟩ := h2 i hi j hj
      exact ⟨x, hx, Rep.mono h.F h.w _ _ hr⟩
    · exact hF b hb ho
    · exact h.F b ((h4 b hb).2 ho)
  | box cs =>
    obtain ⟨b, C, t, rfl, hb, hf, h1, h2⟩ := r
    exact ⟨b, C, t, rfl, by rw [hw b rfl]; exact hb, hF b rfl rfl, h1, RelVs.keep h _ _ h2⟩
  | reg g =>
    obtain ⟨b, hb, hl, hf, hg⟩ := r
    refine ⟨b, hb, ?_, hF b hb rfl, RelG.keep h (hw b hb) hg⟩
    have h1 := hw b hb
    rw [Array.getElem?_eq_getElem hl] at h1
    exact (Array.getElem?_eq_some_iff.1 h1).1
theorem RelO.lt {c : Cx} {v : Value} {o : Ob} (r : RelO c v o) (h : o ≠ .free) (h' : o ≠ .dead) : ∀ b, blk v = some b → b < c.w.heap.size := by
  intro b hb
  cases o with
  | free => exact absurd rfl h
  | dead => exact absurd rfl h'
  | arr own e sz n f =>
    obtain ⟨h0, xs, h1, h2, h3, h4⟩ := r
    obtain ⟨hl, h1⟩ := h1
    rcases h1 with ⟨rfl, _⟩ | ⟨g, cap, cur, rfl, _, hg, _⟩
    · simp [blk] at hb
    · simp only [blk, Option.some.injEq] at hb
      subst hb
      exact (Array.getElem?_eq_some_iff.1 hg).1
  | box cs =>
    obtain ⟨b', C, t, rfl, hb', _⟩ := r
    simp only [blk, Option.some.injEq] at hb
    subst hb
    exact (Array.getElem?_eq_some_iff.1 hb').1
  | reg g =>
    obtain ⟨b', hb', hl, _⟩ := r
    rw [hb'] at hb
    simp only [Option.some.injEq] at hb
    subst hb
    exact hl
theorem mut_ne {o : Ob} (h : o.mut = true) : o ≠ .free ∧ o ≠ .dead := by cases o <;> simp_all [Ob.mut]
theorem rep_arr {c : Cx} {v : Value} {own : Bool} {e sz n : Nat} {f : Nat → Nat → AV} (r : RelO c v (.arr own e sz n f)) (hF : ∀ b, blk v = some b → c.F b) : Rep c.F c.w (.sl sz n f) v := by
  obtain ⟨h0, xs, ⟨hl, h1⟩, h2, h3, h4⟩ := r
  rcases h1 with ⟨rfl, rfl⟩ | ⟨g, cap, cur, rfl, _, hg, hc, _, hs, ht⟩
  · exact ⟨none, 0, rfl, Nat.le_refl _, fun _ => rfl, .inl rfl⟩
  · refine ⟨some ⟨g, 0, none⟩, cap, rfl, hc, (fun h => nomatch h), .inr ⟨g, 0, rfl, hF g rfl, fun i hi j hj => ?_⟩⟩
    obtain ⟨x, hx, hr⟩ := h2 i hi j hj
    refine ⟨x, ?_, hr⟩
    rw [Nat.zero_add, cell_of_row _ g _ cur e (0, 0) hg]
    rw [← ht, List.getElem?_take] at hx
    split at hx
    · simpa using hx
    · cases hx
theorem freeze_ok {E : En} {c : Cx} (hi : Inv E c) {id : Nat} {own : Bool} {e sz n : Nat} {f : Nat → Nat → AV} (ho : look c.hp id = .arr own e sz n f) :
    ∃ F', Inv E ⟨F', c.w, c.κ, c.hp.set id (.arr false e sz n f)⟩ ∧ Le c ⟨F', c.w, c.κ, c.hp.set id (.arr false e sz n f)⟩ ∧ Rep F' c.w (.sl sz n f) (c.κ id) := by
  have hlt : id < c.hp.length := look_lt (by rw [ho]; simp)
  have hobj := hi.objs id
  rw [ho] at hobj
  have hle : Le c ⟨fun b => c.F b ∨ blk (c.κ id) = some b, c.w, c.κ, c.hp.set id (.arr false e sz n f)⟩ := by
    refine ⟨fun b h => .inl h, fun _ _ => rfl, fun j => ?_⟩
    show OLe (look c.hp j) (look (c.hp.set id _) j) (c.κ j) (c.κ j)
    rw [look_set]
    split
    · rename_i e1; obtain ⟨rfl, _⟩ := e1; rw [ho]; exact .inr ⟨rfl, _, _, rfl⟩
    · exact OLe.refl _ _
  have hobj' : RelO ⟨fun b => c.F b ∨ blk (c.κ id) = some b, c.w, c.κ, c.hp.set id (.arr false e sz n f)⟩ (c.κ id) (.arr false e sz n f) := by
    obtain ⟨h0, xs, h1, h2, h3, h4⟩ := hobj
    exact ⟨h0, xs, h1, fun i hi' j hj => by obtain ⟨x, hx, hr⟩ := h2 i hi' j hj; exact ⟨x, hx, Rep.mono hle.F hle.w _ _ hr⟩, h3, fun b hb => ⟨fun h => by simp at h, fun _ => .inr hb⟩⟩
  refine ⟨fun b => c.F b ∨ blk (c.κ id) = some b, ⟨hi.chg, fun b h => .inl (hi.f0 b h), ?_, ?_, ?_, ?_, ?_⟩, hle, rep_arr hobj' fun b hb => .inr hb⟩
  · rintro b (h | h)
    · exact hi.f1 b h
    · cases own with
      | true => exact .inr (hi.own id b (by rw [ho]; rfl) h)
      | false => exact hi.f1 b ((hobj.2.choose_spec.2.2.2 b h).2 rfl)
  · rintro b (h | h)
    · exact hi.lt b h
    · exact RelO.lt hobj (by simp) (by simp) b h
  · intro j
    show RelO _ (c.κ j) (look (c.hp.set id _) j)
    rw [look_set]
    split
    · rename_i e1; obtain ⟨rfl, _⟩ := e1; exact hobj'
    · rename_i hne
      refine RelO.keep hle (hi.objs j) (fun _ _ => rfl) fun b hb hm => ?_
      rintro (h | h)
      · have := hi.objs j
        cases hj : look c.hp j with
        | free => rw [hj] at hm; simp [Ob.mut] at hm
        | dead => rw [hj] at hm; simp [Ob.mut] at hm
        | arr own' e' sz' n' f' =>
          rw [hj] at this hm
          exact (this.2.choose_spec.2.2.2 b hb).1 hm h
        | box cs =>
          rw [hj] at this
          obtain ⟨b', C, t, hk, _, hf, _⟩ := this
          rw [hk] at hb
          simp only [blk, Option.some.injEq] at hb
          subst hb
          exact hf h
        | reg g =>
          rw [hj] at this
          obtain ⟨b', hk, _, hf, _⟩ := this
          rw [hk] at hb
          simp only [Option.some.injEq] at hb
          subst hb
          exact hf h
      · cases own with
        | true => exact hne ⟨hi.inj id j b (by rw [ho]; rfl) hm h hb, hlt⟩
        | false =>
          have hfb := (hobj.2.choose_spec.2.2.2 b h).2 rfl
          have := hi.objs j
          cases hj : look c.hp j with
          | free => rw [hj] at hm; simp [Ob.mut] at hm
          | dead => rw [hj] at hm; simp [Ob.mut] at hm
          | arr own' e' sz' n' f' =>
            rw [hj] at this hm
            exact (this.2.choose_spec.2.2.2 b hb).1 hm hfb
          | box cs =>
            rw [hj] at this
            obtain ⟨b', C, t, hk, _, hf, _⟩ := this
            rw [hk] at hb
            simp only [blk, Option.some.injEq] at hb
            subst hb
            exact hf hfb
          | reg g =>
            rw [hj] at this
            obtain ⟨b', hk, _, hf, _⟩ := this
            rw [hk] at hb
            simp only [Option.some.injEq] at hb
            subst hb
            exact hf hfb
  · intro i j b h1 h2 h3 h4
    have key : ∀ k, (look (c.hp.set id (.arr false e sz n f)) k).mut = true → (look c.hp k).mut = true := by
      intro k hk
      rw [look_set] at hk
      split at hk
      · simp [Ob.mut] at hk
      · exact hk
    exact hi.inj i j b (key i h1) (key j h2) h3 h4
  · intro i b h1 h2
    have h1' : (look (c.hp.set id (.arr false e sz n f)) i).mut = true := h1
    rw [look_set] at h1'
    split at h1'
    · simp [Ob.mut] at h1'
    · exact hi.own i b h1' h2
end Go.Proofs.YtjhnpaenhdbhpacV
set_option linter.unusedVariables false
set_option linter.unusedSimpArgs false
set_option linter.constructorNameAsVariable false
namespace Go.Proofs.YtjhnpaenhdbhpacV
open Go Go.RowKit
theorem Inv.blk_lt {E : En} {c : Cx} (hi : Inv E c) {i : Nat} (h : (look c.hp i).mut = true) : ∀ b, blk (c.κ i) = some b → b < c.w.heap.size :=
  RelO.lt (hi.objs i) (mut_ne h).1 (mut_ne h).2
theorem Inv.notF {E : En} {c : Cx} (hi : Inv E c) {i : Nat} (h : (look c.hp i).mut = true) : ∀ b, blk (c.κ i) = some b → ¬ c.F b := by
  intro b hb
  have := hi.objs i
  cases hj : look c.hp i with
  | free => rw [hj] at h; simp [Ob.mut] at h
  | dead => rw [hj] at h; simp [Ob.mut] at h
  | arr own' e' sz' n' f' =>
    rw [hj] at this h
    exact (this.2.choose_spec.2.2.2 b hb).1 h
  | box cs =>
    rw [hj] at this
    obtain ⟨b', C, t, hk, _, hf, _⟩ := this
    rw [hk] at hb
    simp only [blk, Option.some.injEq] at hb
    subst hb
    exact hf
  | reg g =>
    rw [hj] at this
    obtain ⟨b', hk, _, hf, _⟩ := this
    rw [hk] at hb
    simp only [Option.some.injEq] at hb
    subst hb
    exact hf
theorem Inv.step {E : En} {c : Cx} (hi : Inv E c) {w' : World} {κ' : Nat → Value} {hp' : List Ob} (W : Nat → Prop) (hc : Chg W c.w w') (hW : ∀ b, W b → ¬ c.F b ∧ (E.M b ∨ E.w.heap.size ≤ b))
    (ho : ∀ id, OLe (look c.hp id) (look hp' id) (c.κ id) (κ' id))
    (hobjs : Le c ⟨c.F, w', κ', hp'⟩ → ∀ id, (look hp' id = look c.hp id ∧ κ' id = c.κ id ∧ ∀ b, blk (c.κ id) = some b → (look c.hp id).mut = true → ¬ W b) ∨ RelO ⟨c.F, w', κ', hp'⟩ (κ' id) (look hp' id))
    (hinj : ∀ i j b, (look hp' i).mut = true → (look hp' j).mut = true → blk (κ' i) = some b → blk (κ' j) = some b → i = j)
    (hown : ∀ i b, (look hp' i).mut = true → blk (κ' i) = some b → E.M b ∨ E.w.heap.size ≤ b) :
    Inv E ⟨c.F, w', κ', hp'⟩ ∧ Le c ⟨c.F, w', κ', hp'⟩ := by
  have hle : Le c ⟨c.F, w', κ', hp'⟩ := ⟨fun _ h => h, fun b h => hc.block b (hi.lt b h) (fun h' => (hW b h').1 h), ho⟩
  refine ⟨⟨⟨hc.os.trans hi.chg.os, hc.tape.trans hi.chg.tape, hc.output.trans hi.chg.output, Nat.le_trans hi.chg.drawn hc.drawn, Nat.le_trans hi.chg.size hc.size, fun b hb hM => ?_⟩, hi.f0, hi.f1, fun b h => Nat.lt_of_lt_of_le (hi.lt b h) hc.size, fun id => ?_, hinj, hown⟩, hle⟩
  · refine (hc.block b (Nat.lt_of_lt_of_le hb hi.chg.size) fun h => ?_).trans (hi.chg.block b hb hM)
    rcases (hW b h).2 with h | h
    · exact hM h
    · omega
  · rcases hobjs hle id with ⟨h1, h2, h3⟩ | h
    · show RelO _ (κ' id) (look hp' id)
      rw [h1, h2]
      have hr := hi.objs id
      by_cases hm : (look c.hp id).mut = true
      · exact RelO.keep hle hr (fun b hb => hc.block b (hi.blk_lt hm b hb) (h3 b hb hm)) (fun b hb _ => hi.notF hm b hb)
      · cases hj : look c.hp id with
        | free => trivial
        | dead => trivial
        | box cs => rw [hj] at hm; simp [Ob.mut] at hm
        | reg g => rw [hj] at hm; simp [Ob.mut] at hm
        | arr own e sz n f =>
          rw [hj] at hm hr
          have hown : own = false := by simpa [Ob.mut] using hm
          refine RelO.keep hle hr (fun b hb => ?_) (fun b hb h => by rw [show (Ob.arr own e sz n f).mut = own from rfl] at h; rw [hown] at h; cases h)
          exact hle.w b ((hr.2.choose_spec.2.2.2 b hb).2 hown)
    · exact h
def upd (κ : Nat → Value) (i : Nat) (v : Value) : Nat → Value := fun j => if j = i then v else κ j
theorem upd_same (κ : Nat → Value) (i : Nat) (v : Value) : upd κ i v i = v := if_pos rfl
theorem upd_ne {κ : Nat → Value} {i j : Nat} {v : Value} (h : j ≠ i) : upd κ i v j = κ j := if_neg h
theorem chg_alloc (W : Nat → Prop) (w : World) (o : Obj) : Chg W w (w.alloc o) := ⟨rfl, rfl, rfl, Nat.le_refl _, by simp, fun b hb _ => heap_alloc_old w o b hb⟩
theorem chg_grown {w w' : World} {row : Option Nat} (h : w.grownBy w' row) (hd : w.drawn ≤ w'.drawn) : Chg (fun b => row = some b) w w' :=
  ⟨h.os, h.tape, h.output, hd, h.size, fun b hb hn => h.block b hb (fun e => hn e.symm)⟩
theorem Inv.new {E : En} {c : Cx} (hi : Inv E c) {w' : World} {g : Nat} {v : Value} {o : Ob} (hc : Chg (fun _ => False) c.w w') (hg : look c.hp g = .free) (hl : g < c.hp.length)
    (hv : ∀ b, blk v = some b → c.w.heap.size ≤ b) (ho : Le c ⟨c.F, w', upd c.κ g v, c.hp.set g o⟩ → RelO ⟨c.F, w', upd c.κ g v, c.hp.set g o⟩ v o) :
    Inv E ⟨c.F, w', upd c.κ g v, c.hp.set g o⟩ ∧ Le c ⟨c.F, w', upd c.κ g v, c.hp.set g o⟩ := by
  refine hi.step (fun _ => False) hc (fun _ h => h.elim) (fun id => ?_) (fun hle id => ?_) (fun i j b h1 h2 h3 h4 => ?_) (fun i b h1 h2 => ?_)
  · rw [look_set]
    split
    · rename_i e; obtain ⟨rfl, _⟩ := e; rw [hg]; trivial
    · rename_i e; rw [upd_ne (fun h => e ⟨h.symm, hl⟩)]; exact OLe.refl _ _
  · by_cases e : id = g
    · subst e; rw [upd_same, look_set_same o hl]; exact .inr (ho hle)
    · rw [upd_ne e, look_set_ne o (Ne.symm e)]; exact .inl ⟨rfl, rfl, fun _ _ _ h => h⟩
  · by_cases e : i = g <;> by_cases e' : j = g
    · rw [e, e']
    · subst e
      rw [upd_same] at h3
      rw [upd_ne e'] at h4
      rw [look_set_ne o (Ne.symm e')] at h2
      have := hv b h3
      have := hi.blk_lt h2 b h4
      omega
    · subst e'
      rw [upd_same] at h4
      rw [upd_ne e] at h3
      rw [look_set_ne o (Ne.symm e)] at h1
      have := hv b h4
      have := hi.blk_lt h1 b h3
      omega
    · rw [upd_ne e] at h3
      rw [upd_ne e'] at h4
      rw [look_set_ne o (Ne.symm e)] at h1
      rw [look_set_ne o (Ne.symm e')] at h2
      exact hi.inj i j b h1 h2 h3 h4
  · by_cases e : i = g
    · subst e
      rw [upd_same] at h2
      exact .inr (Nat.le_trans hi.chg.size (hv b h2))
    · rw [upd_ne e] at h2
      rw [look_set_ne o (Ne.symm e)] at h1
      exact hi.own i b h1 h2
theorem Inv.put {E : En} {c : Cx} (hi : Inv E c) {w' : World} {id : Nat} {o : Ob} (hm : (look c.hp id).mut = true) (hc : Chg (fun b => blk (c.κ id) = some b) c.w w') (hs : OLe (look c.hp id) o (c.κ id) (c.κ id))
    (ho : Le c ⟨c.F, w', c.κ, c.hp.set id o⟩ → RelO ⟨c.F, w', c.κ, c.hp.set id o⟩ (c.κ id) o) :
    Inv E ⟨c.F, w', c.κ, c.hp.set id o⟩ ∧ Le c ⟨c.F, w', c.κ, c.hp.set id o⟩ := by
  have hl : id < c.hp.length := look_lt (mut_ne hm).1
  have key : ∀ k, (look (c.hp.set id o) k).mut = true → (look c.hp k).mut = true := by
    intro k hk
    rw [look_set] at hk
    split at hk
    · rename_i e; rw [← e.1]; exact hm
    · exact hk
  refine hi.step (fun b => blk (c.κ id) = some b) hc (fun b h => ⟨hi.notF hm b h, hi.own id b hm h⟩) (fun j => ?_) (fun hle j => ?_) (fun i j b h1 h2 h3 h4 => hi.inj i j b (key i h1) (key j h2) h3 h4) (fun i b h1 h2 => hi.own i b (key i h1) h2)
  · rw [look_set]
    split
    · rename_i e; obtain ⟨rfl, _⟩ := e; exact hs
    · exact OLe.refl _ _
  · by_cases e : j = id
    · subst e; rw [look_set_same o hl]; exact .inr (ho hle)
    · rw [look_set_ne o (Ne.symm e)]
      exact .inl ⟨rfl, rfl, fun b hb hm' h => e (hi.inj j id b hm' hm hb h)⟩
theorem Inv.move {E : En} {c : Cx} (hi : Inv E c) {w' : World} {id g : Nat} {v : Value} {o : Ob} (hm : (look c.hp id).mut = true) (hg : look c.hp g = .free) (hl : g < c.hp.length) (hc : Chg (fun b => blk (c.κ id) = some b) c.w w')
    (hv : ∀ b, blk v = some b → blk (c.κ id) = some b ∨ c.w.heap.size ≤ b) (ho : Le c ⟨c.F, w', upd c.κ g v, (c.hp.set id .dead).set g o⟩ → RelO ⟨c.F, w', upd c.κ g v, (c.hp.set id .dead).set g o⟩ v o) :
    Inv E ⟨c.F, w', upd c.κ g v, (c.hp.set id .dead).set g o⟩ ∧ Le c ⟨c.F, w', upd c.κ g v, (c.hp.set id .dead).set g o⟩ := by
  have hne : id ≠ g := fun e => by rw [e, hg] at hm; simp [Ob.mut] at hm
  have hlid : id < c.hp.length := look_lt (mut_ne hm).1
  have hlg : g < (c.hp.set id .dead).length := by simpa using hl
  have l1 : look ((c.hp.set id .dead).set g o) g = o := look_set_same o hlg
  have l2 : look ((c.hp.set id .dead).set g o) id = .dead := by rw [look_set_ne o (Ne.symm hne), look_set_same .dead hlid]
  have l3 : ∀ j, j ≠ id → j ≠ g → look ((c.hp.set id .dead).set g o) j = look c.hp j := fun j h1 h2 => by rw [look_set_ne o (Ne.symm h2), look_set_ne .dead (Ne.symm h1)]
  have nm : ∀ {j}, (look ((c.hp.set id .dead).set g o) j).mut = true → j ≠ id := fun {j} h e => by rw [e, l2] at h; simp [Ob.mut] at h
  refine hi.step (fun b => blk (c.κ id) = some b) hc (fun b h => ⟨hi.notF hm b h, hi.own id b hm h⟩) (fun j => ?_) (fun hle j => ?_) (fun i j b h1 h2 h3 h4 => ?_) (fun i b h1 h2 => ?_)
  · by_cases e : j = g
    · subst e; rw [hg]; trivial
    · by_cases e' : j = id
      · subst e'
        rw [l2]
        cases hk : look c.hp j with
        | free => trivial
        | dead => rfl
        | arr own e sz n f => exact .inl rfl
        | box cs => exact .inl rfl
        | reg g => exact .inl rfl
      · rw [l3 j e' e, upd_ne e]; exact OLe.refl _ _
  · by_cases e : j = g
    · subst e; rw [l1, upd_same]; exact .inr (ho hle)
    · by_cases e' : j = id
      · subst e'; rw [l2]; exact .inr trivial
      · rw [l3 j e' e, upd_ne e]
        exact .inl ⟨rfl, rfl, fun b hb hm' h => e' (hi.inj j id b hm' hm hb h)⟩
  · have n1 := nm h1
    have n2 := nm h2
    by_cases e : i = g <;> by_cases e' : j = g
    · rw [e, e']
    · subst e
      rw [upd_same] at h3
      rw [upd_ne e'] at h4
      rw [l3 j n2 e'] at h2
      rcases hv b h3 with h | h
      · exact absurd (hi.inj j id b h2 hm h4 h) n2
      · have := hi.blk_lt h2 b h4
        omega
    · subst e'
      rw [upd_same] at h4
      rw [upd_ne e] at h3
      rw [l3 i n1 e] at h1
      rcases hv b h4 with h | h
      · exact absurd (hi.inj i id b h1 hm h3 h) n1
      · have := hi.blk_lt h1 b h3
        omega
    · rw [upd_ne e] at h3
      rw [upd_ne e'] at h4
      rw [l3 i n1 e] at h1
      rw [l3 j n2 e'] at h2
      exact hi.inj i j b h1 h2 h3 h4
  · have n1 := nm h1
    by_cases e : i = g
    · subst e
      rw [upd_same] at h2
      rcases hv b h2 with h | h
      · exact hi.own id b hm h
      · exact .inr (Nat.le_trans hi.chg.size h)
    · rw [upd_ne e] at h2
      rw [l3 i n1 e] at h1
      exact hi.own i b h1 h2
theorem rep_part {F : Nat → Prop} {w : World} {sz m : Nat} {f : Nat → Nat → AV} {b : Option Addr} {cap lo n : Nat} (h : Rep F w (.sl sz m f) (.slice b m cap)) (hl : lo + n ≤ m) :
    Rep F w (.sl sz n fun a c => f (lo + a) c) (.slice (if cap = lo then b else b.map (·.add (lo * sz))) n (cap - lo)) := by
  obtain ⟨base, cap', e, hc, hz, h⟩ := h
  injection e with e1 e2 e3
  subst e1 e3
  refine ⟨_, cap - lo, rfl, by omega, ?_, ?_⟩
  · split
    · omega
    · intro hb
      have : b = none := by simpa using hb
      have := hz this
      omega
  · by_cases hn : n = 0
    · exact .inl hn
    · right
      rcases h with h | ⟨b0, o, rfl, hF, hh⟩
      · omega
      · rw [if_neg (by omega)]
        refine ⟨b0, o + lo * sz, by simp [Addr.add], hF, fun i hi j hj => ?_⟩
        obtain ⟨c, h1, h2⟩ := hh (lo + i) (by omega) j hj
        refine ⟨c, ?_, h2⟩
        rw [show o + lo * sz + (i * sz + j) = o + ((lo + i) * sz + j) from by rw [Nat.add_mul]; omega]
        exact h1
theorem frzs_ok {E : En} (lk : Nat → Ob) : ∀ (xs : List FV) (ays : List AV) (c : Cx) (vs : List Value), Inv E c → (∀ id, lk id = .free ∨ look c.hp id = lk id ∨ look c.hp id = (lk id).froze) → toAVs lk xs = some ays → RelVs c xs vs →
    ∃ F', Inv E ⟨F', c.w, c.κ, setUps c.hp (frzs lk xs)⟩ ∧ Le c ⟨F', c.w, c.κ, setUps c.hp (frzs lk xs)⟩ ∧ (∀ id, lk id = .free ∨ look (setUps c.hp (frzs lk xs)) id = lk id ∨ look (setUps c.hp (frzs lk xs)) id = (lk id).froze) ∧
      ays.length = vs.length ∧ ∀ (i : Nat) (a : AV) (v : Value), ays[i]? = some a → vs[i]? = some v → Rep F' c.w a v := by
  intro xs
  induction xs with
  | nil =>
    intro ays c vs hi hlk ha hr
    simp only [toAVs, Option.some.injEq] at ha
    simp only [RelVs] at hr
    subst ha hr
    exact ⟨c.F, hi, Le.refl c, hlk, rfl, fun i a v h => by simp at h⟩
  | cons x xs ih =>
    intro ays c vs hi hlk ha hr
    simp only [toAVs] at ha
    cases hx : toAV lk x with
    | none => simp [hx] at ha
    | some a =>
      cases hxs : toAVs lk xs with
      | none => simp [hx, hxs] at ha
      | some ays' =>
        simp only [hx, hxs, Option.some.injEq] at ha
        subst ha
        simp only [RelVs] at hr
        obtain ⟨v, vs', rfl, hv, hvs⟩ := hr
        have one : ∃ F', Inv E ⟨F', c.w, c.κ, setUps c.hp (frz lk x)⟩ ∧ Le c ⟨F', c.w, c.κ, setUps c.hp (frz lk x)⟩ ∧ (∀ id, lk id = .free ∨ look (setUps c.hp (frz lk x)) id = lk id ∨ look (setUps c.hp (frz lk x)) id = (lk id).froze) ∧ Rep F' c.w a v := by
          cases x with
          | p a' =>
            simp only [toAV, Option.some.injEq] at hx
            subst hx
            simp only [RelV] at hv
            exact ⟨c.F, hi, Le.refl c, hlk, hv⟩
          | nil =>
            simp only [toAV, Option.some.injEq] at hx
            subst hx
            simp only [RelV] at hv
            exact ⟨c.F, hi, Le.refl c, hlk, ⟨none, 0, hv, Nat.le_refl _, fun _ => rfl, .inl rfl⟩⟩
          | sref id e sz n =>
            simp only [toAV] at hx
            cases hq : lk id with
            | free => simp [hq] at hx
            | dead => simp [hq] at hx
            | box cs => simp [hq] at hx
            | reg g => simp [hq] at hx
            | arr own e1 sz1 n1 f =>
              simp only [hq, Option.some.injEq] at hx
              subst hx
              obtain ⟨own', hc⟩ : ∃ own', look c.hp id = .arr own' e1 sz1 n1 f := by
                rcases hlk id with h | h | h
                · rw [hq] at h; cases h
                · exact ⟨own, h.trans hq⟩
                · exact ⟨false, by rw [h, hq]; rfl⟩
              obtain ⟨F', h1, h2, h3⟩ := freeze_ok hi hc
              have hfz : frz lk (.sref id e sz n) = [(id, .arr false e1 sz1 n1 f)] := by simp [frz, hq]
              simp only [RelV] at hv
              have hkv : v = c.κ id := by
                have := hv.2
                rw [hc] at this
                exact this.2.2.2
              rw [hfz]
              refine ⟨F', h1, h2, fun j => ?_, hkv ▸ h3⟩
              show lk j = .free ∨ look (c.hp.set id _) j = lk j ∨ look (c.hp.set id _) j = (lk j).froze
              rw [look_set]
              split
              · rename_i e; obtain ⟨rfl, _⟩ := e; rw [hq]; exact .inr (.inr rfl)
              · exact hlk j
          | u => simp [toAV] at hx
          | und => simp [toAV] at hx
          | agg cs => simp [toAV] at hx
          | ptr id i j => simp [toAV] at hx
          | ssub id e sz lo n =>
            simp only [toAV] at hx
            cases hq : lk id with
            | free => simp [hq] at hx
            | dead => simp [hq] at hx
            | box cs => simp [hq] at hx
            | reg g => simp [hq] at hx
            | arr own e1 sz1 n1 f =>
              simp only [hq, Option.some.injEq] at hx
              subst hx
              obtain ⟨own', hc⟩ : ∃ own', look c.hp id = .arr own' e1 sz1 n1 f := by
                rcases hlk id with h | h | h
                · rw [hq] at h; cases h
                · exact ⟨own, h.trans hq⟩
                · exact ⟨false, by rw [h, hq]; rfl⟩
              obtain ⟨F', h1, h2, h3⟩ := freeze_ok hi hc
              have hfz : frz lk (.ssub id e sz lo n) = [(id, .arr false e1 sz1 n1 f)] := by simp [frz, hq]
              simp only [RelV] at hv
              have hkv : Rep F' c.w (.sl sz1 n fun a b => f (lo + a) b) v := by
                have := hv.2
                rw [hc] at this
                obtain ⟨-, q2, q3, b, cap, q4, q5⟩ := this
                rw [q4] at h3
                have h4 := rep_part h3 q3
                rw [q2, ← q5] at h4
                rw [q2]
                exact h4
              rw [hfz]
              refine ⟨F', h1, h2, fun j => ?_, hkv⟩
              show lk j = .free ∨ look (c.hp.set id _) j = lk j ∨ look (c.hp.set id _) j = (lk j).froze
              rw [look_set]
              split
              · rename_i e; obtain ⟨rfl, _⟩ := e; rw [hq]; exact .inr (.inr rfl)
              · exact hlk j
          | vptr m f => simp [toAV] at hx
          | fn f cs => simp [toAV] at hx
          | tup us => simp [toAV] at hx
          | mref id mm => simp [toAV] at hx
        obtain ⟨F1, i1, l1, k1, r1⟩ := one
        obtain ⟨F2, i2, l2, k2, e2, r2⟩ := ih ays' ⟨F1, c.w, c.κ, setUps c.hp (frz lk x)⟩ vs' i1 k1 hxs (RelVs.keep l1 _ _ hvs)
        have hsplit : setUps c.hp (frzs lk (x :: xs)) = setUps (setUps c.hp (frz lk x)) (frzs lk xs) := by simp [setUps, frzs, List.foldl_append]
        rw [hsplit]
        refine ⟨F2, i2, Le.trans l1 l2, k2, by simp [e2], fun i y u h1 h2 => ?_⟩
        cases i with
        | zero =>
          simp only [List.getElem?_cons_zero, Option.some.injEq] at h1 h2
          subst h1 h2
          exact Rep.mono l2.F l2.w _ _ r1
        | succ i => exact r2 i y u (by simpa using h1) (by simpa using h2)
end Go.Proofs.YtjhnpaenhdbhpacV
set_option linter.unusedVariables false
set_option linter.unusedSimpArgs false
set_option linter.constructorNameAsVariable false
namespace Go.Proofs.YtjhnpaenhdbhpacV
open Go Go.RowKit
def cells1 (lk : Nat → Ob) (x : FV) (n : Nat) : Option (List FV) :=
  match x with
  | .ptr id i j => match lk id with
    | .box cs => if j + n ≤ cs.length then some ((cs.drop j).take n) else none
    | .arr _ _ sz _ f => if j + n ≤ sz then some ((List.range n).map fun q => .p (f i (j + q))) else none
    | _ => none
  | .vptr m f => if n ≤ m then some ((List.range n).map fun q => .p (f q)) else none
  | _ => none
def loadF (P : Program) (t : TypeId) (x : FV) (lk : Nat → Ob) : Option Rs :=
  match P.info? t with
  | none => none
  | some i =>
    if Program.isSt P t then
      match cells1 lk x i.size with
      | some cs => some ⟨.agg cs, [], none⟩
      | none => none
    else
      match P.underlying t with
      | none => none
      | some _ => match cells1 lk x 1 with
        | some [c] => some ⟨c, [], none⟩
        | _ => none
def storeF (P : Program) (t : TypeId) (x y : FV) (lk : Nat → Ob) : Option Rs :=
  match P.info? t with
  | none => none
  | some i => match cellsF y with
    | none => none
    | some ys => if ys.length = i.size then
        match x with
        | .ptr id q j => match lk id with
          | .box cs => if j + ys.length ≤ cs.length then some ⟨.u, [(id, .box (cs.take j ++ ys ++ cs.drop (j + ys.length)))], none⟩ else none
          | .arr own e sz n f => if own = true ∧ j + ys.length ≤ sz ∧ (frzs lk ys).all (fun p => p.1 != id) = true then
              match toAVs lk ys with
              | some ays => some ⟨.u, frzs lk ys ++ [(id, .arr true e sz n (fun i' j' => if i' = q ∧ j ≤ j' ∧ j' < j + ys.length then ays.getD (j' - j) .u else f i' j'))], none⟩
              | none => none
            else none
          | _ => none
        | _ => none
      else none
def moveF (P : Program) (t : TypeId) (x : FV) (g : Nat) : Option Rs :=
  match x with
  | .nil => match P.underlying t with
    | some (.slice e) => match P.info? e with
      | some i => if 0 < i.size then some ⟨.sref g e i.size 0, [(g, .arr true e i.size 0 (fun _ _ => .u))], none⟩ else none
      | none => none
    | _ => none
  | v => some ⟨v, [], none⟩
def pickF (c a b : FV) : Option Rs :=
  match c with
  | .p (.bool true) => some ⟨a, [], none⟩
  | .p (.bool false) => some ⟨b, [], none⟩
  | _ => none
def boxF (x : FV) (g : Nat) : Option Rs :=
  match cellsF x with
  | some cs => some ⟨.ptr g 0 0, [(g, .box cs)], none⟩
  | none => none
def allocF (P : Program) (t : TypeId) (g : Nat) : Option Rs :=
  match P.info? t with
  | some i => match i.zero with
    | some z => if z.cells.all (·.oneCell') = true then some ⟨.ptr g 0 0, [(g, .box (z.cells.toList.map constF))], none⟩ else none
    | none => none
  | none => none
def unF (op : UnOp) (x : FV) : Option Rs :=
  match op, x with
  | .not, .p (.bool b) => some ⟨.p (.bool (!b)), [], none⟩
  | .neg, .p (.int k n) => some ⟨.p (.int k (k.wrap (0 - n))), [], none⟩
  | _, _ => none
def exF (x : FV) (i : Nat) : Option Rs :=
  match x with
  | .tup us => match us[i]? with
    | some u => some ⟨u, [], none⟩
    | none => none
  | _ => none
def faF (P : Program) (s : TypeId) (x : FV) (q : Nat) : Option Rs :=
  match P.underlying s with
  | some (.struct fs) => match fs[q]? with
    | some f => match P.info? f.type with
      | some i => if i.size = 0 then none else
        match x with
        | .ptr id a b => some ⟨.ptr id a (b + f.offset), [], none⟩
        | .vptr m h => if f.offset ≤ m then some ⟨.vptr (m - f.offset) (fun j => h (f.offset + j)), [], none⟩ else none
        | _ => none
      | none => none
    | none => none
  | _ => none
def iaF (P : Program) (t : TypeId) (x ix : FV) : Option Rs :=
  match P.underlying t with
  | some (.slice e) => match P.info? e with
    | some i => match ix with
      | .p (.int _ k) => match x with
        | .sref id _ sz n => if sz = i.size then some ⟨.ptr id k.toNat 0, [], some (0 ≤ k ∧ k < n)⟩ else none
        | .p (.sl sz n f) => if sz = i.size then some ⟨.vptr sz (f k.toNat), [], some (0 ≤ k ∧ k < n)⟩ else none
        | _ => none
      | _ => none
    | none => none
  | some (.array n e) => match P.info? e, ix, x with
    | some i, .p (.int _ k), .ptr id q j => some ⟨.ptr id q (j + k.toNat * i.size), [], some (0 ≤ k ∧ k < n)⟩
    | _, _, _ => none
  | _ => none
def lenF (P : Program) (t : TypeId) (x : FV) : Option Rs :=
  match P.underlying t with
  | some (.slice _) => match x with
    | .sref _ _ _ n => some ⟨.p (.int .i64 n), [], none⟩
    | .ssub _ _ _ _ n => some ⟨.p (.int .i64 n), [], none⟩
    | .nil => some ⟨.p (.int .i64 0), [], none⟩
    | .p (.sl _ n _) => some ⟨.p (.int .i64 n), [], none⟩
    | _ => none
  | some .string => match x with
    | .p (.str s) => some ⟨.p (.int .i64 s.size), [], none⟩
    | _ => none
  | _ => none
theorem run_size {P : Program} {t : TypeId} {i : TypeInfo} (h : P.info? t = some i) (w : World) : (sizeOf t).run P w = .ok i.size w := by simp [sizeOf, typeInfo, h]
theorem relV_const (c : Cx) (v : Value) : RelV c (constF v) v := by
  unfold constF
  split <;> simp [RelV, Rep]
theorem relV_val {c : Cx} {fr : List FV} {a : Act} (h : RelVs c fr a.tmps.toList) (x : Operand) : RelV c (valF fr x) (a.eval x) := by
  cases x with
  | tmp t =>
    simp only [valF, Act.eval]
    by_cases hl : t < fr.length
    · obtain ⟨v, h1, h2⟩ := h.get t hl
      have h1' : a.tmps[t]? = some v := by simpa using h1
      simp only [List.getD_eq_getElem?_getD, List.getElem?_eq_getElem hl, Option.getD_some, Array.getD_eq_getD_getElem?, h1']
      exact h2
    · simp [List.getD_eq_getElem?_getD, List.getElem?_eq_none (Nat.le_of_not_lt hl), RelV]
  | const v => exact relV_const c v
  | global g => simp [valF, RelV]
  | func f => simp only [valF, Act.eval, RelV]; exact ⟨#[], rfl, rfl⟩
theorem relVs_put {c : Cx} {fr : List FV} {a : Act} (h : RelVs c fr a.tmps.toList) {x : FV} {v : Value} (hx : RelV c x v) (d : Tmp) : RelVs c (fr.set d x) (a.put (some d) v).tmps.toList := by
  simp only [Act.put, Array.toList_setIfInBounds]
  exact h.set hx d
theorem FV.ok1_one {c : Cx} {x : FV} {v : Value} (h : x.ok1 = true) (r : RelV c x v) : v.oneCell' = true := by
  cases x with
  | u => simp [FV.ok1] at h
  | und => simp [FV.ok1] at h
  | agg cs => simp [FV.ok1] at h
  | tup cs => simp [FV.ok1] at h
  | nil => simp only [RelV] at r; rw [r]; rfl
  | p a => simp only [RelV] at r; exact r.one
  | sref id e sz n => simp only [RelV] at r; obtain ⟨⟨_, _, rfl, _⟩, _⟩ := r; rfl
  | ssub id e sz lo n => simp only [RelV] at r; obtain ⟨⟨_, _, rfl⟩, _⟩ := r; rfl
  | ptr id i j => simp only [RelV] at r; obtain ⟨_, rfl, _⟩ := r; rfl
  | vptr m f => simp only [RelV] at r; obtain ⟨_, _, rfl, _⟩ := r; rfl
  | fn f cs => simp only [RelV] at r; obtain ⟨_, rfl, _⟩ := r; rfl
  | mref id mm => simp only [RelV] at r; exact r.1
theorem cells_of_one {v : Value} (h : v.oneCell' = true) : v.cells = #[v] := by cases v <;> first | rfl | simp [Value.oneCell'] at h
theorem cellsF_rel {c : Cx} {x : FV} {v : Value} {cs : List FV} (h : cellsF x = some cs) (r : RelV c x v) : RelVs c cs v.cells.toList ∧ ∀ u, u ∈ v.cells → u.oneCell' = true := by
  by_cases hx : ∃ ds, x = .agg ds
  · obtain ⟨ds, rfl⟩ := hx
    simp only [cellsF] at h
    split at h
    · rename_i hall
      simp only [Option.some.injEq] at h
      subst h
      simp only [RelV] at r
      obtain ⟨vs, rfl, hr⟩ := r
      refine ⟨hr, fun u (hu : u ∈ vs) => ?_⟩
      obtain ⟨i, hi, rfl⟩ := Array.mem_iff_getElem.1 hu
      have hl := hr.length
      obtain ⟨y, h1, h2⟩ := hr.get i (by simp at hl; omega)
      have : y = vs[i] := by
        have hi' : vs.toList[i]? = some vs[i] := by simp
        rw [hi'] at h1
        exact (Option.some.inj h1).symm
      subst this
      exact FV.ok1_one (List.all_eq_true.1 hall _ (List.getElem_mem _)) h2
    · cases h
  · have h' : x.ok1 = true ∧ cs = [x] := by
      cases x <;> simp_all [cellsF, FV.ok1]
    obtain ⟨h1, rfl⟩ := h'
    have ho := FV.ok1_one h1 r
    rw [cells_of_one ho]
    refine ⟨by simp only [RelVs]; exact ⟨v, [], rfl, r, rfl⟩, fun u hu => ?_⟩
    have hu' : u = v := by simpa using hu
    subst hu'
    exact ho
theorem cells1_ok {E : En} {c : Cx} (hi : Inv E c) {lk : Nat → Ob} (hlk : ∀ id, lk id = .free ∨ lk id = look c.hp id) {x : FV} {v : Value} {n : Nat} {cs : List FV} (h : cells1 lk x n = some cs) (r : RelV c x v) :
    ∃ b o vs, (0 < n → v = .pointer (some ⟨b, o, none⟩)) ∧ vs.length = n ∧ RelVs c cs vs ∧ c.w.rangeAt b o vs ∧ ∃ a, v = .pointer (some a) := by
  cases x with
  | u => simp [cells1] at h
  | und => simp [cells1] at h
  | nil => simp [cells1] at h
  | p a => simp [cells1] at h
  | agg cs => simp [cells1] at h
  | sref id e sz n => simp [cells1] at h
  | ssub id e sz lo n => simp [cells1] at h
  | fn f cs => simp [cells1] at h
  | tup us => simp [cells1] at h
  | mref id mm => simp [cells1] at h
  | vptr m f =>
    simp only [cells1] at h
    split at h
    · rename_i hn
      simp only [Option.some.injEq] at h
      subst h
      simp only [RelV] at r
      obtain ⟨b, o, rfl, hb, hr⟩ := r
      refine ⟨b, o, (List.range n).map fun q => (c.w.cell? ⟨b, o + q, none⟩).getD undef, fun _ => rfl, by simp, ?_, fun j u hu => ?_, _, rfl⟩
      · refine RelVs.of_get (by simp) fun i u hu hl => ?_
        have hin : i < n := by simpa using hl
        obtain ⟨y, h1, h2⟩ := hr i (by omega)
        simp only [List.getElem?_map, List.getElem?_range hin, Option.map_some, h1, Option.getD_some, Option.some.injEq] at hu
        subst hu
        simp only [List.getElem_map, List.getElem_range, RelV]
        exact h2
      · have hjn : j < n := by
          have := (List.getElem?_eq_some_iff.1 hu).1
          simpa using this
        obtain ⟨y, h1, h2⟩ := hr j (by omega)
        simp only [List.getElem?_map, List.getElem?_range hjn, Option.map_some, h1, Option.getD_some, Option.some.injEq] at hu
        rw [h1, hu]
    · cases h
  | ptr id i j =>
    simp only [RelV] at r
    obtain ⟨a, rfl, hp⟩ := r
    simp only [cells1] at h
    have ho := hi.objs id
    rcases hlk id with hf | hf
    · simp [hf] at h
    · rw [hf] at h
      cases hob : look c.hp id with
      | free => simp [hob] at h
      | dead => simp [hob] at h
      | reg g => simp [hob] at h
      | box ds =>
        rw [hob] at ho hp
        simp only [hob] at h
        split at h
        · rename_i hn
          simp only [Option.some.injEq] at h
          subst h
          obtain ⟨b, C, t, hk, hb, _, _, hC⟩ := ho
          obtain ⟨rfl, b', hk', rfl⟩ := hp
          rw [hk] at hk'
          simp only [Value.pointer.injEq, Option.some.injEq, Addr.mk.injEq] at hk'
          obtain ⟨rfl, _⟩ := hk'
          have hl := hC.length
          refine ⟨b, j, (C.toList.drop j).take n, fun _ => rfl, by simp at hl ⊢; omega, ?_, fun q u hu => ?_, _, rfl⟩
          · refine RelVs.of_get (by simp at hl ⊢; omega) fun q u hu hlq => ?_
            have hqn : q < n := by simp at hlq; omega
            obtain ⟨y, h1, h2⟩ := hC.get (j + q) (by omega)
            rw [List.getElem?_take, if_pos hqn, List.getElem?_drop, h1] at hu
            simp only [Option.some.injEq] at hu
            subst hu
            simpa using h2
          · have hqn : q < n := by
              have := (List.getElem?_eq_some_iff.1 hu).1
              simp at this
              omega
            rw [List.getElem?_take, if_pos hqn, List.getElem?_drop] at hu
            rw [cell_of_row _ b _ C t (0, 0) hb]
            simpa using hu
        · cases h
      | arr own e sz m f =>
        rw [hob] at ho hp
        simp only [hob] at h
        split at h
        · rename_i hn
          simp only [Option.some.injEq] at h
          subst h
          obtain ⟨him, b, cap, hk, rfl⟩ := hp
          obtain ⟨h0, xs, hown, hx, _, _⟩ := ho
          rw [hk] at hown
          refine ⟨b, i * sz + j, (List.range n).map fun q => (xs[i * sz + (j + q)]?).getD undef, fun _ => rfl, by simp, ?_, fun q u hu => ?_, _, rfl⟩
          · refine RelVs.of_get (by simp) fun q u hu hl => ?_
            have hqn : q < n := by simpa using hl
            obtain ⟨y, h1, h2⟩ := hx i him (j + q) (by omega)
            simp only [List.getElem?_map, List.getElem?_range hqn, Option.map_some, h1, Option.getD_some, Option.some.injEq] at hu
            subst hu
            simp only [List.getElem_map, List.getElem_range, RelV]
            exact h2
          · have hqn : q < n := by
              have := (List.getElem?_eq_some_iff.1 hu).1
              simpa using this
            obtain ⟨y, h1, h2⟩ := hx i him (j + q) (by omega)
            simp only [List.getElem?_map, List.getElem?_range hqn, Option.map_some, h1, Option.getD_some, Option.some.injEq] at hu
            have hlt : i * sz + (j + q) < m * sz := by
              have := Nat.mul_le_mul_right sz (show i + 1 ≤ m from him)
              rw [Nat.add_mul, Nat.one_mul] at this
              omega
            rw [show i * sz + j + q = i * sz + (j + q) from by omega, hown.cellAt _ hlt, h1, hu]
        · cases h
def Step1 (E : En) (c : Cx) (rs : Rs) (r : Result Next) : Prop :=
  ∃ (nx : Next) (v : Value) (c' : Cx), r = .ok nx c'.w ∧ (nx = .value v ∨ (nx = .skip ∧ v = undef)) ∧ Inv E c' ∧ Le c c' ∧ c'.hp = setUps c.hp rs.ups ∧ RelV c' rs.r v
theorem step_pure {E : En} {c : Cx} (hi : Inv E c) {x : FV} {ob : Option Prop} {v : Value} {r : Result Next} (hr : r = .ok (.value v) c.w) (h : RelV c x v) : Step1 E c ⟨x, [], ob⟩ r :=
  ⟨_, v, c, hr, .inl rfl, hi, Le.refl c, rfl, h⟩
theorem load_ok {P : Program} {E : En} {c : Cx} (hi : Inv E c) {lk : Nat → Ob} (hlk : ∀ id, lk id = .free ∨ lk id = look c.hp id) {t : TypeId} {x : FV} {rs : Rs} {v : Value} (h : loadF P t x lk = some rs) (r : RelV c x v) :
    ∃ a u, v = .pointer (some a) ∧ (loadVar t a).run P c.w = .ok u c.w ∧ RelV c rs.r u ∧ rs.ups = [] := by
  unfold loadF at h
  cases hq : P.info? t with
  | none => simp [hq] at h
  | some i =>
    simp only [hq] at h
    split at h
    · rename_i hst
      cases hc : cells1 lk x i.size with
      | none => simp [hc] at h
      | some cs =>
        simp only [hc, Option.some.injEq] at h
        subst h
        obtain ⟨b, o, vs, h1, h2, h3, h4, a, ha⟩ := cells1_ok hi hlk hc r
        unfold Program.isSt at hst
        cases hu : P.underlying t with
        | none => simp [hu] at hst
        | some d =>
          have hd : d.isRow = true := by
            rw [hu] at hst
            cases d <;> simp_all
          rcases Nat.eq_zero_or_pos i.size with hz | hz
          · have hvs : vs = [] := List.eq_nil_of_length_eq_zero (by omega)
            subst hvs ha
            refine ⟨a, .agg #[], rfl, ?_, (by simp only [RelV]; exact ⟨#[], rfl, h3⟩), rfl⟩
            have hagg : (isAgg t).run P c.w = .ok true c.w := by
              unfold isAgg
              rw [Sem.run_bind, run_underlying hu c.w]
              cases d <;> simp_all
            simp [loadVar, hagg, run_size hq, hz, loadCells, loadCellsFrom]
          · rw [h1 hz]
            exact ⟨_, .agg vs.toArray, rfl, run_loadVar_mid c.w b o t vs d h4 hu hd (by simp [hq, h2]), (by simp only [RelV]; exact ⟨vs.toArray, rfl, by simpa using h3⟩), rfl⟩
    · rename_i hst
      cases hu : P.underlying t with
      | none => simp [hu] at h
      | some d =>
        simp only [hu] at h
        cases hc : cells1 lk x 1 with
        | none => simp [hc] at h
        | some cs =>
          obtain ⟨b, o, vs, h1, h2, h3, h4, a, ha⟩ := cells1_ok hi hlk hc r
          obtain ⟨y, rfl, rfl⟩ : ∃ y, cs = [y] ∧ rs = ⟨y, [], none⟩ := by
            rw [hc] at h
            cases cs with
            | nil => simp at h
            | cons y ys =>
              cases ys with
              | nil => simp only [Option.some.injEq] at h; exact ⟨y, rfl, h.symm⟩
              | cons z zs => simp at h
          simp only [RelVs] at h3
          obtain ⟨u, us, rfl, hy, hus⟩ := h3
          rw [h1 (by omega)]
          refine ⟨_, u, rfl, ?_, hy, rfl⟩
          have hagg : (isAgg t).run P c.w = .ok false c.w := by
            unfold isAgg
            rw [Sem.run_bind, run_underlying hu c.w]
            unfold Program.isSt at hst
            rw [hu] at hst
            cases d <;> simp_all
          have hcell := h4 0 u rfl
          simp only [Nat.add_zero] at hcell
          simp [loadVar, hagg, hcell]
theorem step_load {P : Program} {E : En} {c : Cx} (hi : Inv E c) {lk : Nat → Ob} (hlk : ∀ id, lk id = .free ∨ lk id = look c.hp id) {t : TypeId} {x : FV} {rs : Rs} {v : Value} (h : loadF P t x lk = some rs) (r : RelV c x v) :
    Step1 E c rs ((do pure (Next.value (← Instr.loadAt t v)) : Sem Next).run P c.w) := by
  obtain ⟨a, u, rfl, h1, h2, h3⟩ := load_ok hi hlk h r
  refine ⟨_, u, c, by simp [Instr.loadAt, Instr.sureAddr, h1], .inl rfl, hi, Le.refl c, by rw [h3]; rfl, h2⟩
theorem step_move {P : Program} {E : En} {c : Cx} (hi : Inv E c) {g : Nat} {t : TypeId} {x : FV} (hgx : x = .nil → look c.hp g = .free ∧ g < c.hp.length) {rs : Rs} {v : Value} (h : moveF P t x g = some rs) (r : RelV c x v) {q : Result Next} (hq : q = .ok (.value v) c.w) :
    Step1 E c rs q := by
  by_cases hx : x = .nil
  · subst hx
    have hg := hgx rfl
    simp only [moveF] at h
    cases hu : P.underlying t with
    | none => simp [hu] at h
    | some d =>
      cases d with
      | slice e =>
        simp only [hu] at h
        cases hy : P.info? e with
        | none => simp [hy] at h
        | some i =>
          simp only [hy] at h
          split at h
          · rename_i hs
            simp only [Option.some.injEq] at h
            subst h
            simp only [RelV] at r
            subst r
            obtain ⟨i1, l1⟩ := hi.new (w' := c.w) (g := g) (v := .slice none 0 0) (o := .arr true e i.size 0 (fun _ _ => .u)) (Chg.refl _ _) hg.1 hg.2 (fun b hb => by simp [blk] at hb)
              (fun _ => ⟨hs, [], World.ownsRow_nil _ _ _ _, fun i hi => by omega, fun u hu => by simp at hu, fun b hb => by simp [blk] at hb⟩)
            refine ⟨_, _, ⟨c.F, c.w, upd c.κ g (.slice none 0 0), c.hp.set g (.arr true e i.size 0 fun _ _ => .u)⟩, hq, .inl rfl, i1, l1, rfl, ?_⟩
            simp only [RelV]
            refine ⟨⟨none, 0, rfl, by simp⟩, ?_⟩
            show RefS (look (c.hp.set g _) g) (upd c.κ g _ g) _ _ _ _
            rw [look_set_same _ hg.2, upd_same]
            exact ⟨rfl, rfl, rfl, rfl⟩
          · cases h
      | _ => simp [hu] at h
  · have h' : rs = ⟨x, [], none⟩ := by cases x <;> simp_all [moveF]
    subst h'
    exact step_pure hi hq r
theorem new_box {E : En} {c : Cx} (hi : Inv E c) {g : Nat} (hg : look c.hp g = .free ∧ g < c.hp.length) {cs : List FV} {C : Array Value} (t : TypeId) (hr : RelVs c cs C.toList) (h1 : ∀ u, u ∈ C → u.oneCell' = true) {q : Result Next}
    (hq : q = .ok (.value (.pointer (some ⟨c.w.heap.size, 0, none⟩))) (c.w.alloc (.cells C t))) {ob : Option Prop} : Step1 E c ⟨.ptr g 0 0, [(g, .box cs)], ob⟩ q := by
  obtain ⟨i1, l1⟩ := hi.new (w' := c.w.alloc (.cells C t)) (g := g) (v := .pointer (some ⟨c.w.heap.size, 0, none⟩)) (o := .box cs) (chg_alloc _ _ _) hg.1 hg.2
    (fun b hb => by simp only [blk, Option.some.injEq] at hb; omega)
    (fun hle => ⟨c.w.heap.size, C, t, rfl, heap_alloc_new _ _, fun h => absurd (hi.lt _ h) (Nat.lt_irrefl _), h1, RelVs.keep hle _ _ hr⟩)
  refine ⟨_, _, _, hq, .inl rfl, i1, l1, rfl, ?_⟩
  simp only [RelV]
  refine ⟨_, rfl, ?_⟩
  show RefP (look (c.hp.set g _) g) (upd c.κ g _ g) _ _ _
  rw [look_set_same _ hg.2, upd_same]
  exact ⟨rfl, _, rfl, rfl⟩
theorem step_box {P : Program} {E : En} {c : Cx} (hi : Inv E c) {g : Nat} (hg : look c.hp g = .free ∧ g < c.hp.length) {t : TypeId} {x : FV} {rs : Rs} {v : Value} (h : boxF x g = some rs) (r : RelV c x v) :
    Step1 E c rs ((do pure (Next.value (← Instr.box t v)) : Sem Next).run P c.w) := by
  unfold boxF at h
  cases hc : cellsF x with
  | none => simp [hc] at h
  | some cs =>
    simp only [hc, Option.some.injEq] at h
    subst h
    obtain ⟨h1, h2⟩ := cellsF_rel hc r
    refine new_box hi hg t h1 h2 ?_
    simp [Instr.box, newVar, newRow]
theorem step_alloc {P : Program} {E : En} {c : Cx} (hi : Inv E c) {g : Nat} (hg : look c.hp g = .free ∧ g < c.hp.length) {t : TypeId} {rs : Rs} (h : allocF P t g = some rs) :
    Step1 E c rs ((do pure (Next.value (← Instr.alloc t true (.tuple #[]))) : Sem Next).run P c.w) := by
  unfold allocF at h
  cases hq : P.info? t with
  | none => simp [hq] at h
  | some i =>
    cases hz : i.zero with
    | none => simp [hq, hz] at h
    | some z =>
      simp only [hq, hz] at h
      split at h
      · rename_i hall
        simp only [Option.some.injEq] at h
        subst h
        refine new_box hi hg t (C := z.cells) (RelVs.of_get (by simp) fun i u hu hl => ?_) (fun u hu => by simpa using Array.all_eq_true_iff_forall_mem.1 hall u hu) ?_
        · simp only [List.getElem_map]
          have : z.cells.toList[i]'(by simpa using hl) = u := by
            rw [List.getElem?_eq_getElem (by simpa using hl)] at hu
            exact Option.some.inj hu
          rw [this]
          exact relV_const c u
        · simp [Instr.alloc, newVar, newRow, zeroValue, typeInfo, hq, hz]
      · cases h
end Go.Proofs.YtjhnpaenhdbhpacV
set_option linter.unusedVariables false
set_option linter.unusedSimpArgs false
set_option linter.constructorNameAsVariable false
namespace Go.Proofs.YtjhnpaenhdbhpacV
open Go Go.RowKit
theorem step_un {P : Program} {E : En} {c : Cx} (hi : Inv E c) {op : UnOp} {x : FV} {rs : Rs} {v : Value} (h : unF op x = some rs) (r : RelV c x v) :
    Step1 E c rs ((do pure (Next.value (← Op.unary op v)) : Sem Next).run P c.w) := by
  unfold unF at h
  split at h
  · simp only [Option.some.injEq] at h
    subst h
    simp only [RelV, Rep] at r
    subst r
    refine step_pure hi (v := .bool (!_)) ?_ (by simp only [RelV, Rep]; rfl)
    simp [Op.unary]
  · simp only [Option.some.injEq] at h
    subst h
    simp only [RelV, Rep] at r
    subst r
    refine step_pure hi (v := .int _ _) ?_ (by simp only [RelV, Rep]; rfl)
    simp [Op.unary, Op.intArith]
  · cases h
theorem step_ex {P : Program} {E : En} {c : Cx} (hi : Inv E c) {q : Nat} {x : FV} {rs : Rs} {v : Value} (h : exF x q = some rs) (r : RelV c x v) :
    Step1 E c rs ((do pure (Next.value (← Instr.extract v q)) : Sem Next).run P c.w) := by
  cases x with
  | tup us =>
    simp only [exF] at h
    simp only [RelV] at r
    obtain ⟨vs, rfl, hr⟩ := r
    cases hq : us[q]? with
    | none => simp [hq] at h
    | some u =>
      simp only [hq, Option.some.injEq] at h
      subst h
      obtain ⟨hlt, he⟩ := List.getElem?_eq_some_iff.1 hq
      obtain ⟨y, h1, h2⟩ := hr.get q hlt
      have h1' : vs[q]? = some y := by simpa using h1
      refine step_pure hi (v := y) ?_ (he ▸ h2)
      simp [Instr.extract, h1']
  | _ => simp [exF] at h
theorem step_fa {P : Program} {E : En} {c : Cx} (hi : Inv E c) {s : TypeId} {q : Nat} {x : FV} {rs : Rs} {v : Value} (h : faF P s x q = some rs) (r : RelV c x v) :
    Step1 E c rs ((do pure (Next.value (← Instr.fieldAt s v q)) : Sem Next).run P c.w) := by
  unfold faF at h
  split at h
  · rename_i fs hu
    split at h
    · rename_i f hf
      split at h
      · rename_i i hq
        split at h
        · cases h
        · rename_i hz
          have hrun : ∀ a : Addr, (Instr.fieldAt s (.pointer (some a)) q).run P c.w = .ok (.pointer (some (a.add f.offset))) c.w := by
            intro a
            simp [Instr.fieldAt, run_underlying hu, hf, Instr.sureAddr, fieldPlace, run_size hq, hz]
          split at h
          · rename_i id a b
            simp only [Option.some.injEq] at h
            subst h
            simp only [RelV] at r
            obtain ⟨ad, rfl, hp⟩ := r
            refine step_pure hi (v := .pointer (some (ad.add f.offset))) (by rw [Sem.run_bind, hrun]; rfl) ?_
            simp only [RelV]
            refine ⟨_, rfl, ?_⟩
            cases hob : look c.hp id with
            | free => rw [hob] at hp; exact hp.elim
            | dead => trivial
            | reg g => rw [hob] at hp; exact hp.elim
            | arr own e sz n g =>
              rw [hob] at hp
              obtain ⟨h1, b', cap, hk, rfl⟩ := hp
              exact ⟨h1, b', cap, hk, by rw [Addr.add_mid, Nat.add_assoc]⟩
            | box cs =>
              rw [hob] at hp
              obtain ⟨h1, b', hk, rfl⟩ := hp
              exact ⟨h1, b', hk, by rw [Addr.add_mid]⟩
          · rename_i m g
            split at h
            · rename_i hm
              simp only [Option.some.injEq] at h
              subst h
              simp only [RelV] at r
              obtain ⟨b, o, rfl, hb, hr⟩ := r
              refine step_pure hi (v := .pointer (some ((⟨b, o, none⟩ : Addr).add f.offset))) (by rw [Sem.run_bind, hrun]; rfl) ?_
              simp only [RelV]
              refine ⟨b, o + f.offset, by rw [Addr.add_mid], hb.imp (by omega) id, fun j hj => ?_⟩
              obtain ⟨y, h1, h2⟩ := hr (f.offset + j) (by omega)
              exact ⟨y, by rw [Nat.add_assoc]; exact h1, h2⟩
            · cases h
          · cases h
      · cases h
    · cases h
  · cases h
theorem step_ia {P : Program} {E : En} {c : Cx} (hi : Inv E c) {t : TypeId} {x ix : FV} {rs : Rs} {v iv : Value} (h : iaF P t x ix = some rs) (hob : rs.ob) (r : RelV c x v) (ri : RelV c ix iv) :
    Step1 E c rs ((do pure (Next.value (← Instr.indexAt t v iv)) : Sem Next).run P c.w) := by
  unfold iaF at h
  split at h
  rotate_left
  · rename_i len e hu
    split at h
    case h_2 => cases h
    rename_i i k n id q j hq
    simp only [Option.some.injEq] at h
    subst h
    obtain ⟨h0, h1⟩ := hob
    simp only [RelV, Rep] at ri r
    subst ri
    obtain ⟨a, rfl, hp⟩ := r
    refine step_pure hi (v := .pointer (some (a.add (n.toNat * i.size)))) (by simp [Instr.indexAt, asIntOf, Instr.sureAddr, run_underlying hu, h0, h1, run_size hq]) ?_
    simp only [RelV]
    refine ⟨_, rfl, ?_⟩
    cases ho : look c.hp id with
    | free => rw [ho] at hp; exact hp.elim
    | dead => trivial
    | reg g => rw [ho] at hp; exact hp.elim
    | box cs =>
      rw [ho] at hp
      obtain ⟨e1, b, e2, rfl⟩ := hp
      exact ⟨e1, b, e2, by rw [Addr.add_mid]⟩
    | arr own e1 sz1 n1 g =>
      rw [ho] at hp
      obtain ⟨e1, b, cc, e2, rfl⟩ := hp
      exact ⟨e1, b, cc, e2, by rw [Addr.add_mid, Nat.add_assoc]⟩
  · cases h
  · rename_i e hu
    split at h
    · rename_i i hq
      split at h
      · rename_i k n
        simp only [RelV, Rep] at ri
        subst ri
        have hrun : ∀ (a : Addr) (len cap : Nat), 0 ≤ n → n < len → (Instr.indexAt t (.slice (some a) len cap) (.int k n)).run P c.w = .ok (.pointer (some (a.add (n.toNat * i.size)))) c.w := by
          intro a len cap h0 h1
          simp [Instr.indexAt, asIntOf, run_underlying hu, h0, h1, run_size hq]
        split at h
        · rename_i id e' sz m
          split at h
          · rename_i hs
            simp only [Option.some.injEq] at h
            subst h
            obtain ⟨h0, h1⟩ := hob
            simp only [RelV] at r
            obtain ⟨⟨base, cap, rfl, hbase⟩, hp⟩ := r
            obtain ⟨a, rfl⟩ := hbase.resolve_left (by omega)
            refine step_pure hi (v := .pointer (some (a.add (n.toNat * i.size)))) (by rw [Sem.run_bind, hrun _ _ _ h0 h1]; rfl) ?_
            simp only [RelV]
            refine ⟨_, rfl, ?_⟩
            have ho := hi.objs id
            cases hob : look c.hp id with
            | free => rw [hob] at hp; exact hp.elim
            | dead => trivial
            | box cs => rw [hob] at hp; exact hp.elim
            | reg g => rw [hob] at hp; exact hp.elim
            | arr own e1 sz1 n1 g =>
              rw [hob] at hp ho
              obtain ⟨rfl, rfl, rfl, hk⟩ := hp
              obtain ⟨_, xs, hown, _⟩ := ho
              rw [← hk] at hown
              rcases hown.2 with ⟨hv, _⟩ | ⟨b, cap', cur, hv, _⟩
              · simp at hv
              · simp only [Value.slice.injEq, Option.some.injEq] at hv
                obtain ⟨rfl, _, rfl⟩ := hv
                exact ⟨by omega, b, cap, hk.symm, by rw [Addr.add_mid]; simp [hs]⟩
          · cases h
        · rename_i sz m f
          split at h
          · rename_i hs
            simp only [Option.some.injEq] at h
            subst h
            obtain ⟨h0, h1⟩ := hob
            simp only [RelV, Rep] at r
            obtain ⟨base, cap, rfl, hc, _, hbase⟩ := r
            obtain ⟨b, o, rfl, hb, hx⟩ := hbase.resolve_left (by omega)
            refine step_pure hi (v := .pointer (some ((⟨b, o, none⟩ : Addr).add (n.toNat * i.size)))) (by rw [Sem.run_bind, hrun _ _ _ h0 h1]; rfl) ?_
            simp only [RelV]
            refine ⟨b, o + n.toNat * i.size, by rw [Addr.add_mid], .inr hb, fun j hj => ?_⟩
            obtain ⟨y, h2, h3⟩ := hx n.toNat (by omega) j hj
            exact ⟨y, by rw [← hs, Nat.add_assoc]; exact h2, h3⟩
          · cases h
        · cases h
      · cases h
    · cases h
theorem step_len {P : Program} {E : En} {c : Cx} (hi : Inv E c) {t ty : TypeId} {x : FV} {rs : Rs} {v : Value} (h : lenF P t x = some rs) (r : RelV c x v) {us : Array TypeId} (hus : us[0]? = some t) :
    Step1 E c rs ((do pure (Next.value (← Builtin.len_ us ty #[v])) : Sem Next).run P c.w) := by
  unfold lenF at h
  split at h
  · rename_i e hu
    split at h
    · simp only [Option.some.injEq] at h
      subst h
      simp only [RelV] at r
      obtain ⟨⟨base, cap, rfl, _⟩, _⟩ := r
      refine step_pure hi (v := .int .i64 _) ?_ (by simp only [RelV, Rep]; rfl)
      simp [Builtin.len_, hus, run_underlying hu, goInt]
    · simp only [Option.some.injEq] at h
      subst h
      simp only [RelV] at r
      obtain ⟨⟨base, cap, rfl⟩, _⟩ := r
      refine step_pure hi (v := .int .i64 _) ?_ (by simp only [RelV, Rep]; rfl)
      simp [Builtin.len_, hus, run_underlying hu, goInt]
    · simp only [Option.some.injEq] at h
      subst h
      simp only [RelV] at r
      subst r
      refine step_pure hi (v := .int .i64 _) ?_ (by simp only [RelV, Rep]; rfl)
      simp [Builtin.len_, hus, run_underlying hu, goInt]
    · simp only [Option.some.injEq] at h
      subst h
      simp only [RelV, Rep] at r
      obtain ⟨base, cap, rfl, _⟩ := r
      refine step_pure hi (v := .int .i64 _) ?_ (by simp only [RelV, Rep]; rfl)
      simp [Builtin.len_, hus, run_underlying hu, goInt]
    · cases h
  · rename_i hu
    split at h
    · simp only [Option.some.injEq] at h
      subst h
      simp only [RelV, Rep] at r
      subst r
      refine step_pure hi (v := .int .i64 _) ?_ (by simp only [RelV, Rep]; rfl)
      simp [Builtin.len_, hus, run_underlying hu, goInt]
    · cases h
  · cases h
def bin2 (op : BinOp) (x y : AV) : Option (AV × Option Prop) :=
  match x, y with
  | .int k a, .int k' b =>
    match op with
    | .shl => some (.int k (k.wrap (a * 2 ^ min b.toNat k.bits)), some (0 ≤ b))
    | .shr => some (.int k (a.fdiv (2 ^ min b.toNat k.bits)), some (0 ≤ b))
    | .add => if k = k' then some (.int k (k.wrap (a + b)), none) else none
    | .sub => if k = k' then some (.int k (k.wrap (a - b)), none) else none
    | .mul => if k = k' then some (.int k (k.wrap (a * b)), none) else none
    | .quo => if k = k' then some (.int k (k.wrap (a.tdiv b)), some (b ≠ 0)) else none
    | .rem => if k = k' then some (.int k (a.tmod b), some (b ≠ 0)) else none
    | .and => if k = k' then some (.int k (bits .and k a b), none) else none
    | .or => if k = k' then some (.int k (bits .or k a b), none) else none
    | .xor => if k = k' then some (.int k (bits .xor k a b), none) else none
    | .eql => if k = k' then some (.bool (a == b), none) else none
    | .neq => if k = k' then some (.bool (a != b), none) else none
    | .lss => if k = k' then some (.bool (decide (a < b)), none) else none
    | .leq => if k = k' then some (.bool (decide (a ≤ b)), none) else none
    | .gtr => if k = k' then some (.bool (decide (a > b)), none) else none
    | .geq => if k = k' then some (.bool (decide (a ≥ b)), none) else none
    | _ => none
  | .str a, .str b =>
    match op with
    | .add => some (.str (a ++ b), some (((a.size + b.size : Nat) : Int) ≤ 9223372036854775807))
    | .eql => some (.bool (a.data.toList == b.data.toList), none)
    | .neq => some (.bool (!(a.data.toList == b.data.toList)), none)
    | .lss => some (.bool (Op.bytesLess a.data.toList b.data.toList), none)
    | .leq => some (.bool (Op.bytesLess a.data.toList b.data.toList || a.data.toList == b.data.toList), none)
    | .gtr => some (.bool (!(Op.bytesLess a.data.toList b.data.toList || a.data.toList == b.data.toList)), none)
    | .geq => some (.bool (!Op.bytesLess a.data.toList b.data.toList), none)
    | _ => none
  | _, _ => none
def eqCells (P : Program) : List Field → Nat → List FV → List FV → Option Bool
  | [], _, [], [] => some true
  | f :: fs, o, .p a :: xs, .p b :: ys =>
    if f.offset = o ∧ (f.name == "_") = false then
      match eqCells P fs (o + 1) xs ys with
      | none => none
      | some r => match P.underlying f.type, a, b with
        | some (.int _), .int k x, .int k' y => if k = k' then some (x == y && r) else none
        | some .string, .str x, .str y => some (x.data.toList == y.data.toList && r)
        | some .bool, .bool x, .bool y => some (x == y && r)
        | _, _, _ => none
    else none
  | _, _, _, _ => none
def binF (P : Program) (op : BinOp) (t : TypeId) (x y : FV) : Option Rs :=
  match x, y with
  | .p (.bool a), .p (.bool b) => match P.underlying t with
    | some .bool => match op with
      | .eql => some ⟨.p (.bool (a == b)), [], none⟩
      | .neq => some ⟨.p (.bool (!(a == b))), [], none⟩
      | _ => none
    | _ => none
  | .p a, .p b => match bin2 op a b with
    | some (r, ob) => some ⟨.p r, [], ob⟩
    | none => none
  | .agg xs, .agg ys => match P.underlying t with
    | some (.struct fs) => if P.stoodInHeld t = false ∧ P.eqGuardType P.depth t = false then
        match eqCells P fs.toList 0 xs ys with
        | some r => match op with
          | .eql => some ⟨.p (.bool r), [], none⟩
          | .neq => some ⟨.p (.bool (!r)), [], none⟩
          | _ => none
        | none => none
      else none
    | _ => none
  | _, _ => none
theorem eqCells_ok {P : Program} {c : Cx} {d : Nat} {X Y : Array Value} : ∀ (fs : List Field) (o : Nat) (xs ys : List FV) (r : Bool) (us vs : List Value), eqCells P fs o xs ys = some r → RelVs c xs us → RelVs c ys vs →
    X.toList.drop o = us → Y.toList.drop o = vs → (Op.eqFields (d + 1) X Y fs).run P c.w = .ok r c.w := by
  intro fs
  induction fs with
  | nil =>
    intro o xs ys r us vs h hx hy h1 h2
    cases xs <;> cases ys <;> simp [eqCells] at h
    subst h
    simp [Op.eqFields]
  | cons f fs ih =>
    intro o xs ys r us vs h hx hy h1 h2
    cases xs with
    | nil => simp [eqCells] at h
    | cons x xs =>
      cases ys with
      | nil => cases x <;> simp [eqCells] at h
      | cons y ys =>
        cases x <;> try (simp [eqCells] at h; done)
        rename_i a
        cases y <;> try (simp [eqCells] at h; done)
        rename_i b
        simp only [eqCells] at h
        split at h
        · rename_i hf
          obtain ⟨ho, hn⟩ := hf
          cases hr : eqCells P fs (o + 1) xs ys with
          | none => simp [hr] at h
          | some r' =>
            simp only [hr] at h
            simp only [RelVs] at hx hy
            obtain ⟨u, us', rfl, hu, hus⟩ := hx
            obtain ⟨v, vs', rfl, hv, hvs⟩ := hy
            simp only [RelV] at hu hv
            have hd1 : X.toList.drop (o + 1) = us' := by rw [← List.drop_drop, h1]; rfl
            have hd2 : Y.toList.drop (o + 1) = vs' := by rw [← List.drop_drop, h2]; rfl
            have hi := ih (o + 1) xs ys r' us' vs' hr hus hvs hd1 hd2
            have hX : X[o]? = some u := by
              have := congrArg (fun l => l[0]?) h1
              simpa using this
            have hY : Y[o]? = some v := by
              have := congrArg (fun l => l[0]?) h2
              simpa using this
            have hn' : f.name ≠ "_" := by simpa using hn
            have key : ∀ (q : Bool), (isAgg f.type).run P c.w = .ok false c.w → (Op.equalIn (d + 1) f.type u v).run P c.w = .ok q c.w → (Op.eqFields (d + 1) X Y (f :: fs)).run P c.w = .ok (q && r') c.w := by
              intro q hag hq
              rw [Op.eqFields]
              simp only [if_pos hn', Sem.run_bind, part, hag, Result.andThen_ok, Bool.false_eq_true, if_false, ho, hX, hY, Sem.run_pure, hq]
              cases q
              · simp
              · simpa using hi
            split at h
            · rename_i hty
              split at h
              · rename_i hk
                subst hk
                simp only [Option.some.injEq] at h
                subst h
                simp only [Rep] at hu hv
                subst hu hv
                exact key _ (by simp [isAgg, run_underlying hty]) (by simp [Op.equalIn, run_underlying hty])
              · cases h
            · rename_i hty
              simp only [Option.some.injEq] at h
              subst h
              simp only [Rep] at hu hv
              subst hu hv
              exact key _ (by simp [isAgg, run_underlying hty]) (by rw [run_equalIn_string _ _ _ _ _ hty, ByteArray.toList_eq, ByteArray.toList_eq])
            · rename_i hty
              simp only [Option.some.injEq] at h
              subst h
              simp only [Rep] at hu hv
              subst hu hv
              exact key _ (by simp [isAgg, run_underlying hty]) (run_equalIn_bool' _ _ _ _ _ hty)
            · cases h
        · cases h
theorem step_bin {P : Program} {E : En} {c : Cx} (hi : Inv E c) {op : BinOp} {t : TypeId} {X Y : Operand} {x y : FV} {rs : Rs} {v u : Value} (h : binF P op t x y = some rs) (hob : rs.ob) (r : RelV c x v) (ru : RelV c y u) :
    Step1 E c rs ((do pure (Next.value (← (do eqGuard op t X Y v u; binOp op t v u))) : Sem Next).run P c.w) := by
  unfold binF at h
  split at h
  · rename_i a b
    simp only [RelV, Rep] at r ru
    subst r ru
    split at h
    · rename_i hu
      split at h
      · simp only [Option.some.injEq] at h
        subst h
        refine step_pure hi (v := .bool _) ?_ (by simp only [RelV, Rep]; rfl)
        simp [eqGuard_at_bool, binOp, Op.equal, Op.maxDepth, run_equalIn_bool' _ _ _ _ _ hu]
      · simp only [Option.some.injEq] at h
        subst h
        refine step_pure hi (v := .bool _) ?_ (by simp only [RelV, Rep]; rfl)
        simp [eqGuard_at_bool, binOp, Op.equal, Op.maxDepth, run_equalIn_bool' _ _ _ _ _ hu]
      · cases h
    · cases h
  · rename_i a b _
    split at h
    · rename_i q ob hb
      simp only [Option.some.injEq] at h
      subst h
      simp only [RelV] at r ru
      unfold bin2 at hb
      split at hb
      · rename_i k n k' m
        simp only [Rep] at r ru
        subst r ru
        split at hb <;> (try split at hb) <;> first | (cases hb; done) | skip
        all_goals
          simp only [Option.some.injEq, Prod.mk.injEq] at hb
          obtain ⟨rfl, rfl⟩ := hb
          (try subst_vars)
          (try simp only [Rs.ob] at hob)
        all_goals first
          | (refine step_pure hi (v := .int _ _) ?_ (by simp only [RelV, Rep]; rfl); simp [eqGuard_at_int, binOp, Op.intArith, Op.intDiv, Op.intCmp, Op.shift, Int.not_lt.2 hob]; done)
          | (refine step_pure hi (v := .int _ _) ?_ (by simp only [RelV, Rep]; rfl); simp [eqGuard_at_int, binOp, Op.intArith, Op.intDiv, Op.intCmp, intBits_and, intBits_or, intBits_xor, hob]; done)
          | (refine step_pure hi (v := .bool _) ?_ (by simp only [RelV, Rep]; rfl); simp [eqGuard_at_int, binOp, Op.intCmp]; done)
      · rename_i n m
        simp only [Rep] at r ru
        subst r ru
        split at hb <;> first | (cases hb; done) | skip
        all_goals
          simp only [Option.some.injEq, Prod.mk.injEq] at hb
          obtain ⟨rfl, rfl⟩ := hb
          (try simp only [Rs.ob] at hob)
        all_goals first
          | (refine step_pure hi (v := .string _) ?_ (by simp only [RelV, Rep]; rfl); have h9 := Int.not_lt.2 hob; simp only [Int.natCast_add] at h9; simp [eqGuard_at_string, binOp, Op.stringOp, h9]; done)
          | (refine step_pure hi (v := .bool _) ?_ (by simp only [RelV, Rep]; rfl); simp [eqGuard_at_string, binOp, Op.stringOp, ByteArray.toList_eq]; done)
      · cases hb
    · cases h
  · rename_i xs ys
    split at h
    · rename_i fs hu
      split at h
      · rename_i hc
        split at h
        · rename_i q hq
          simp only [RelV] at r ru
          obtain ⟨X', rfl, hX⟩ := r
          obtain ⟨Y', rfl, hY⟩ := ru
          have hfo : P.fieldsOf t = fs := by simp [Program.fieldsOf, hu]
          have heq : (Op.equalIn 10000 t (.agg X') (.agg Y')).run P c.w = .ok q c.w := by
            rw [run_equalIn_struct (P := P) c.w 9999 t X' Y' (by rw [hfo]; exact hu) hc.1, hfo]
            exact eqCells_ok fs.toList 0 xs ys q _ _ hq hX hY rfl rfl
          split at h
          · simp only [Option.some.injEq] at h
            subst h
            refine step_pure hi (v := .bool _) ?_ (by simp only [RelV, Rep]; rfl)
            simp [run_eqGuard_agg _ _ _ _ _ _ _ hc.2, run_eql_struct, heq]
          · simp only [Option.some.injEq] at h
            subst h
            refine step_pure hi (v := .bool _) ?_ (by simp only [RelV, Rep]; rfl)
            simp [run_eqGuard_agg _ _ _ _ _ _ _ hc.2, run_neq_struct, heq]
          · cases h
        · cases h
      · cases h
    · cases h
  · cases h
end Go.Proofs.YtjhnpaenhdbhpacV
set_option linter.unusedVariables false
set_option linter.unusedSimpArgs false
set_option linter.constructorNameAsVariable false
namespace Go.Proofs.YtjhnpaenhdbhpacV
open Go Go.RowKit
def lay {α : Type} (L : List α) (k : Nat) (vs : List α) : List α := L.take k ++ vs ++ L.drop (k + vs.length)
theorem length_lay {α : Type} {L : List α} {k : Nat} {vs : List α} (h : k + vs.length ≤ L.length) : (lay L k vs).length = L.length := by
  simp [lay]; omega
theorem get_lay {α : Type} {L : List α} {k : Nat} {vs : List α} (h : k + vs.length ≤ L.length) (i : Nat) : (lay L k vs)[i]? = if i < k then L[i]? else if i < k + vs.length then vs[i - k]? else L[i]? := by
  have e : (L.take k).length = k := by rw [List.length_take]; omega
  unfold lay
  rw [List.append_assoc]
  split
  · rename_i h1
    rw [List.getElem?_append_left (by omega), List.getElem?_take, if_pos h1]
  · rename_i h1
    rw [List.getElem?_append_right (by omega), e]
    split
    · rename_i h2
      rw [List.getElem?_append_left (by omega)]
    · rename_i h2
      rw [List.getElem?_append_right (by omega), List.getElem?_drop]
      congr 1
      omega
theorem relVs_lay {c : Cx} {xs ys : List FV} {us vs : List Value} (hx : RelVs c xs us) (hy : RelVs c ys vs) (k : Nat) (h : k + ys.length ≤ xs.length) : RelVs c (lay xs k ys) (lay us k vs) := by
  have l1 := hx.length
  have l2 := hy.length
  have h' : k + vs.length ≤ us.length := by omega
  refine RelVs.of_get (by rw [length_lay h, length_lay h', l1]) fun i v hv hl => ?_
  rw [get_lay h'] at hv
  have key : (lay xs k ys)[i]? = some (lay xs k ys)[i] := List.getElem?_eq_getElem hl
  rw [get_lay h] at key
  rw [length_lay h] at hl
  split at hv
  · rename_i h1
    rw [if_pos h1] at key
    obtain ⟨y, h2, h3⟩ := hx.get i hl
    rw [h2] at hv
    rw [List.getElem?_eq_getElem hl] at key
    rw [← Option.some.inj key, ← Option.some.inj hv]
    exact h3
  · rename_i h1
    rw [if_neg h1] at key
    split at hv
    · rename_i h2
      rw [if_pos (by omega)] at key
      obtain ⟨y, h3, h4⟩ := hy.get (i - k) (by omega)
      rw [h3] at hv
      rw [List.getElem?_eq_getElem (by omega)] at key
      rw [← Option.some.inj key, ← Option.some.inj hv]
      exact h4
    · rename_i h2
      rw [if_neg (by omega)] at key
      obtain ⟨y, h3, h4⟩ := hx.get i hl
      rw [h3] at hv
      rw [List.getElem?_eq_getElem hl] at key
      rw [← Option.some.inj key, ← Option.some.inj hv]
      exact h4
theorem run_storeVar_lay {P : Program} {t : TypeId} {i : TypeInfo} (hq : P.info? t = some i) (w : World) (b k : Nat) (C : Array Value) (e : TypeId) (v : Value) (hb : w.heap[b]? = some (.cells C e (0, 0))) (hs : v.cells.size = i.size) (hl : k + v.cells.size ≤ C.size) (h1 : ∀ u, u ∈ v.cells → u.oneCell' = true) :
    (Instr.storeAt t (.pointer (some ⟨b, k, none⟩)) v).run P w = .ok () (w.setRow b (lay C.toList k v.cells.toList).toArray) := by
  have h := run_storeCells_at P b k e v.cells.toList 0 C w hb (by simpa using hl) (fun u hu => h1 u (by simpa using hu))
  simp only [Nat.add_zero] at h
  simp [Instr.storeAt, Instr.sureAddr, storeVar, run_size hq, hs, h, lay]
theorem chg_setRow (w : World) (b : Nat) (cs : Array Value) {v : Value} (hv : blk v = some b) : Chg (fun q => blk v = some q) w (w.setRow b cs) :=
  ⟨rfl, rfl, rfl, Nat.le_refl _, by simp, fun q _ hq => setRow_other w b q cs (fun e => hq (by rw [hv, e]))⟩
theorem mul_lt {i n j sz : Nat} (hi : i < n) (hj : j < sz) : i * sz + j < n * sz := by
  have := Nat.mul_le_mul_right sz (show i + 1 ≤ n from hi)
  rw [Nat.add_mul, Nat.one_mul] at this
  omega
theorem idx_inj {i i' j j' sz : Nat} (hj : j < sz) (hj' : j' < sz) (h : i * sz + j = i' * sz + j') : i = i' ∧ j = j' := by
  have h1 : (i * sz + j) / sz = i := by rw [Nat.mul_comm, Nat.mul_add_div (by omega), Nat.div_eq_of_lt hj, Nat.add_zero]
  have h2 : (i' * sz + j') / sz = i' := by rw [Nat.mul_comm, Nat.mul_add_div (by omega), Nat.div_eq_of_lt hj', Nat.add_zero]
  have : i = i' := by rw [← h1, ← h2, h]
  subst this
  exact ⟨rfl, by omega⟩
theorem setUps_append (hp : List Ob) (a b : List (Nat × Ob)) : setUps hp (a ++ b) = setUps (setUps hp a) b := by simp [setUps, List.foldl_append]
theorem look_frzs {lk : Nat → Ob} {id : Nat} : ∀ (xs : List FV) (hp : List Ob), (frzs lk xs).all (fun p => p.1 != id) = true → look (setUps hp (frzs lk xs)) id = look hp id
  | [], hp, _ => rfl
  | x :: xs, hp, h => by
    simp only [frzs, List.all_append, Bool.and_eq_true] at h
    rw [frzs, setUps_append, look_frzs xs _ h.2]
    cases x with
    | sref q e sz n =>
      simp only [frz] at h ⊢
      cases hq : lk q with
      | arr own e1 sz1 n1 f =>
        simp only [hq] at h ⊢
        have : q ≠ id := by simpa using h.1
        show look (hp.set q _) id = look hp id
        exact look_set_ne _ this
      | _ => simp [setUps]
    | ssub q e sz lo n =>
      simp only [frz] at h ⊢
      cases hq : lk q with
      | arr own e1 sz1 n1 f =>
        simp only [hq] at h ⊢
        have : q ≠ id := by simpa using h.1
        show look (hp.set q _) id = look hp id
        exact look_set_ne _ this
      | _ => simp [setUps]
    | _ => simp [frz, setUps]
theorem toAVs_length {lk : Nat → Ob} : ∀ {xs : List FV} {ays : List AV}, toAVs lk xs = some ays → ays.length = xs.length
  | [], ays, h => by simp only [toAVs, Option.some.injEq] at h; rw [← h]; rfl
  | x :: xs, ays, h => by
    simp only [toAVs] at h
    cases hx : toAV lk x with
    | none => simp [hx] at h
    | some a =>
      cases hxs : toAVs lk xs with
      | none => simp [hx, hxs] at h
      | some ays' =>
        simp only [hx, hxs, Option.some.injEq] at h
        rw [← h, List.length_cons, List.length_cons, toAVs_length hxs]
theorem step_store {P : Program} {E : En} {c : Cx} (hi : Inv E c) {lk : Nat → Ob} (hlk : ∀ id, lk id = .free ∨ lk id = look c.hp id) {t : TypeId} {x y : FV} {rs : Rs} {v u : Value} (h : storeF P t x y lk = some rs) (r : RelV c x v) (ry : RelV c y u) :
    Step1 E c rs ((do Instr.storeAt t v u; pure Next.skip : Sem Next).run P c.w) := by
  unfold storeF at h
  cases hq : P.info? t with
  | none => simp [hq] at h
  | some i =>
    simp only [hq] at h
    cases hc : cellsF y with
    | none => simp [hc] at h
    | some ys =>
      simp only [hc] at h
      split at h
      case isFalse => cases h
      rename_i hsz
      obtain ⟨hys, h1⟩ := cellsF_rel hc ry
      have hl := hys.length
      have hl' : u.cells.size = ys.length := by simpa using hl
      cases x <;> try (simp at h; done)
      rename_i id q j
      dsimp only at h
      simp only [RelV] at r
      obtain ⟨a, rfl, hp⟩ := r
      have ho := hi.objs id
      rcases hlk id with hf | hf
      · simp [hf] at h
      rw [hf] at h
      cases hob : look c.hp id with
      | free => simp [hob] at h
      | dead => simp [hob] at h
      | reg g => simp [hob] at h
      | box cs =>
        simp only [hob] at h
        split at h
        case isFalse => cases h
        rename_i hn
        simp only [Option.some.injEq] at h
        subst h
        rw [hob] at ho hp
        obtain ⟨b, C, e, hk, hb, hnf, hone, hC⟩ := ho
        obtain ⟨rfl, b', hk', rfl⟩ := hp
        rw [hk] at hk'
        simp only [Value.pointer.injEq, Option.some.injEq, Addr.mk.injEq] at hk'
        obtain ⟨rfl, _⟩ := hk'
        have hCl := hC.length
        have hCl' : C.size = cs.length := by simpa using hCl
        have hblk : blk (c.κ id) = some b := by rw [hk]; rfl
        have hrun := run_storeVar_lay hq c.w b j C e u hb (by omega) (by omega) h1
        obtain ⟨i1, l1⟩ := hi.put (w' := c.w.setRow b (lay C.toList j u.cells.toList).toArray) (id := id) (o := .box (lay cs j ys)) (by rw [hob]; rfl) (chg_setRow c.w b _ hblk)
          (by rw [hob]; exact .inr ⟨rfl, _, rfl⟩)
          (fun hle => ⟨b, _, e, hk, setRow_heap c.w b C _ e (0, 0) hb, hnf, fun z hz => by
            have hz' : z ∈ lay C.toList j u.cells.toList := by simpa using hz
            simp only [lay, List.append_assoc, List.mem_append] at hz'
            rcases hz' with h | h | h
            · exact hone z (by simpa using List.mem_of_mem_take h)
            · exact h1 z (by simpa using h)
            · exact hone z (by simpa using List.mem_of_mem_drop h), by
            simpa using relVs_lay (RelVs.keep hle _ _ hC) (RelVs.keep hle _ _ hys) j (by omega)⟩)
        refine ⟨_, _, _, by rw [Sem.run_bind, hrun]; rfl, .inr ⟨rfl, rfl⟩, i1, l1, ?_, by simp [RelV]⟩
        simp [setUps, lay]
      | arr own e sz n f =>
        simp only [hob] at h
        split at h
        case isFalse => cases h
        rename_i hn
        obtain ⟨rfl, hjl, hnot⟩ := hn
        cases hav : toAVs lk ys with
        | none => simp [hav] at h
        | some ays =>
          simp only [hav, Option.some.injEq] at h
          subst h
          obtain ⟨F1, i1, l1, k1, e1, r1⟩ := frzs_ok lk ys ays c _ hi (fun z => (hlk z).imp (fun hz => hz) (fun hz => .inl hz.symm)) hav hys
          have hlook : look (setUps c.hp (frzs lk ys)) id = .arr true e sz n f := (look_frzs ys c.hp hnot).trans hob
          have ho1 : RelO _ (c.κ id) (look (setUps c.hp (frzs lk ys)) id) := i1.objs id
          rw [hlook] at ho1
          rw [hob] at hp
          obtain ⟨hqn, b, cap, hk, rfl⟩ := hp
          obtain ⟨h0, xs, hown, hxs, hone, hF⟩ := ho1
          have hblk : blk (c.κ id) = some b := by rw [hk]; rfl
          rw [hk] at hown
          rcases hown.2 with ⟨hv, _⟩ | ⟨b', cap', cur, hv, _, hb, hnc, hcm, hcs, ht⟩
          · simp at hv
          simp only [Value.slice.injEq, Option.some.injEq, Addr.mk.injEq] at hv
          obtain ⟨⟨rfl, _⟩, _, rfl⟩ := hv
          have hxl := hown.1
          have hcl : cur.toList.length = cap * sz := by simpa using hcs
          have hlt : q * sz + j + ys.length ≤ n * sz := by
            have := Nat.mul_le_mul_right sz (show q + 1 ≤ n from hqn)
            rw [Nat.add_mul, Nat.one_mul] at this
            omega
          have hnc' : n * sz ≤ cap * sz := Nat.mul_le_mul_right sz hnc
          have hb' : c.w.heap[b]? = some (.cells cur e (0, 0)) := hb
          have hrun := run_storeVar_lay hq c.w b (q * sz + j) cur e u hb' (by omega) (by omega) h1
          have hul : u.cells.toList.length = ys.length := hl
          have hasl : ays.length = ys.length := toAVs_length hav
          obtain ⟨i2, l2⟩ := i1.put (w' := c.w.setRow b (lay cur.toList (q * sz + j) u.cells.toList).toArray) (id := id)
            (o := .arr true e sz n (fun i' j' => if i' = q ∧ j ≤ j' ∧ j' < j + ys.length then ays.getD (j' - j) .u else f i' j')) (by rw [hlook]; rfl) (chg_setRow c.w b _ hblk)
            (by rw [hlook]; exact .inr ⟨rfl, _, _, rfl⟩)
            (fun hle => ⟨h0, lay xs (q * sz + j) u.cells.toList, ⟨by rw [length_lay (by omega), hxl], .inr ⟨b, cap, _, hk, Nat.zero_le _, setRow_heap c.w b cur _ e (0, 0) hb', hnc, hcm, by
                rw [List.size_toArray, length_lay (by rw [Array.length_toList]; omega), Array.length_toList, hcs], by
                apply List.ext_getElem?
                intro z
                have g1 := get_lay (L := cur.toList) (k := q * sz + j) (vs := u.cells.toList) (by omega) z
                have g2 := get_lay (L := xs) (k := q * sz + j) (vs := u.cells.toList) (by omega) z
                have hx : xs[z]? = if z < n * sz then cur.toList[z]? else none := by rw [← ht, List.getElem?_take]
                rw [List.getElem?_take, List.toList_toArray, g1, g2, hx]
                by_cases hz : z < n * sz
                · simp only [if_pos hz]
                · rw [if_neg hz, if_neg hz, if_neg (by omega), if_neg (by omega)]⟩⟩,
              fun i' hi' j' hj' => by
                dsimp only
                rw [get_lay (by omega)]
                by_cases hin : i' = q ∧ j ≤ j' ∧ j' < j + ys.length
                · obtain ⟨rfl, ha, hb2⟩ := hin
                  rw [if_neg (by omega), if_pos (by omega), if_pos ⟨rfl, ha, hb2⟩]
                  have hz : j' - j < ys.length := by omega
                  obtain ⟨y2, hy1, _⟩ := hys.get (j' - j) hz
                  refine ⟨y2, by rw [show i' * sz + j' - (i' * sz + j) = j' - j from by omega]; exact hy1, ?_⟩
                  have ha2 : ays[j' - j]? = some (ays.getD (j' - j) .u) := by
                    rw [List.getD_eq_getElem?_getD, List.getElem?_eq_getElem (by omega)]; rfl
                  exact Rep.mono hle.F hle.w _ _ (r1 (j' - j) _ y2 ha2 hy1)
                · rw [if_neg hin]
                  obtain ⟨y2, hy1, hy2⟩ := hxs i' hi' j' hj'
                  refine ⟨y2, ?_, Rep.mono hle.F hle.w _ _ hy2⟩
                  have : ¬ (q * sz + j ≤ i' * sz + j' ∧ i' * sz + j' < q * sz + j + ys.length) := by
                    rintro ⟨g1, g2⟩
                    have : i' * sz + j' = q * sz + (i' * sz + j' - q * sz) := by omega
                    have := idx_inj hj' (show i' * sz + j' - q * sz < sz by omega) this
                    exact hin ⟨this.1, by omega, by omega⟩
                  by_cases g1 : i' * sz + j' < q * sz + j
                  · rw [if_pos g1]; exact hy1
                  · rw [if_neg g1, if_neg (by omega)]; exact hy1,
              fun z hz => by
                simp only [lay, List.append_assoc, List.mem_append] at hz
                rcases hz with h | h | h
                · exact hone z (List.mem_of_mem_take h)
                · exact h1 z (by simpa using h)
                · exact hone z (List.mem_of_mem_drop h),
              fun b2 hb2 => ⟨fun _ => (hF b2 hb2).1 rfl, fun h => by simp at h⟩⟩)
          refine ⟨_, _, _, by rw [Sem.run_bind, hrun]; rfl, .inr ⟨rfl, rfl⟩, i2, Le.trans l1 l2, ?_, by simp [RelV]⟩
          simp [setUps, List.foldl_append]
end Go.Proofs.YtjhnpaenhdbhpacV
set_option linter.unusedVariables false
set_option linter.unusedSimpArgs false
set_option linter.constructorNameAsVariable false
namespace Go.Proofs.YtjhnpaenhdbhpacV
open Go Go.RowKit
def appA (n : Nat) (f h : Nat → Nat → AV) : Nat → Nat → AV := fun a b => if a < n then f a b else h (a - n) b
def srcA (x : FV) (lk : Nat → Ob) : Option (Nat × Nat × (Nat → Nat → AV)) :=
  match x with
  | .nil => some (0, 0, fun _ _ => .u)
  | .p (.sl sz m h) => some (sz, m, h)
  | .sref id _ _ _ => match lk id with
    | .arr _ _ sz m h => some (sz, m, h)
    | _ => none
  | .ssub id _ _ lo k => match lk id with
    | .arr _ _ sz _ h => some (sz, k, fun a b => h (lo + a) b)
    | _ => none
  | _ => none
def dstA (x : FV) (lk : Nat → Ob) : Option (Nat × Nat × Nat × Nat × (Nat → Nat → AV)) :=
  match x with
  | .sref id _ _ _ => match lk id with
    | .arr true e sz n f => some (id, e, sz, n, f)
    | _ => none
  | .ssub id _ _ lo k => if lo = 0 then match lk id with
      | .arr true e sz _ f => some (id, e, sz, k, f)
      | _ => none
    else none
  | _ => none
def appF (P : Program) (t : TypeId) (s x : FV) (lk : Nat → Ob) (g : Nat) : Option Rs :=
  match P.underlying t with
  | some (.slice e) => match P.info? e with
    | some i => match i.zero with
      | some z => if 0 < i.size ∧ z.cells.size = i.size then
          match srcA x lk with
          | some (sz, m, h) => if sz = i.size ∨ m = 0 then
              match s with
              | .nil => some ⟨.sref g e i.size m, [(g, .arr true e i.size m h)], some (m ≤ maxLen ∧ m * i.bytes ≤ 140737488355328)⟩
              | s => match dstA s lk with
                | some (id, e', sz', n, f) => if e' = e ∧ sz' = i.size then
                    some ⟨.sref g e i.size (n + m), [(id, .dead), (g, .arr true e i.size (n + m) (appA n f h))], some (n + m ≤ maxLen ∧ (n + m) * i.bytes ≤ 140737488355328)⟩
                  else none
                | none => none
            else none
          | none => none
        else none
      | none => none
    | none => none
  | _ => none
def Src (c : Cx) (base : Option Addr) (m cap sz : Nat) (h : Nat → Nat → AV) : Prop :=
  (base = none ∧ m = 0 ∧ cap = 0) ∨ ∃ (a : Addr) (news : List Value), base = some a ∧ news.length = m * sz ∧ (∀ j u, news[j]? = some u → c.w.cell? (a.add j) = some u) ∧ (∀ u, u ∈ news → u.oneCell' = true) ∧
      ∀ i, i < m → ∀ j, j < sz → ∃ y, news[i * sz + j]? = some y ∧ Rep c.F c.w (h i j) y
theorem srcA_ok {E : En} {c : Cx} (hi : Inv E c) {lk : Nat → Ob} (hlk : ∀ id, lk id = .free ∨ lk id = look c.hp id) {x : FV} {v : Value} {sz m : Nat} {h : Nat → Nat → AV} (hs : srcA x lk = some (sz, m, h)) (r : RelV c x v) :
    ∃ base cap, v = .slice base m cap ∧ Src c base m cap sz h := by
  have rep : Rep c.F c.w (.sl sz m h) v → ∃ base cap, v = .slice base m cap ∧ Src c base m cap sz h := by
    rintro ⟨base, cap, rfl, hc, hz, hb⟩
    refine ⟨base, cap, rfl, ?_⟩
    cases base with
    | none =>
      refine .inl ⟨rfl, ?_, hz rfl⟩
      rcases hb with hb | ⟨b, o, h1, _⟩
      · exact hb
      · cases h1
    | some a =>
      rcases hb with rfl | ⟨b, o, h1, hF, hx⟩
      · exact .inr ⟨a, [], rfl, by simp, fun j u hu => by simp at hu, fun u hu => by simp at hu, fun i hi => by omega⟩
      · obtain rfl : a = ⟨b, o, none⟩ := Option.some.inj h1
        have key : ∀ q, q < m * sz → ∃ y, c.w.cell? ⟨b, o + q, none⟩ = some y ∧ y.oneCell' = true := by
          intro q hq
          have hsz : 0 < sz := Nat.pos_of_ne_zero fun e => by subst e; simp at hq
          have h1 : q / sz < m := Nat.div_lt_of_lt_mul (by rw [Nat.mul_comm]; exact hq)
          obtain ⟨y, h2, h3⟩ := hx (q / sz) h1 (q % sz) (Nat.mod_lt _ hsz)
          refine ⟨y, ?_, h3.one⟩
          rw [show q / sz * sz + q % sz = q from by rw [Nat.mul_comm]; exact Nat.div_add_mod q sz] at h2
          exact h2
        refine .inr ⟨_, (List.range (m * sz)).map fun q => (c.w.cell? ⟨b, o + q, none⟩).getD undef, rfl, by simp, fun j u hu => ?_, fun u hu => ?_, fun i hi j hj => ?_⟩
        · have hj : j < m * sz := by
            have := (List.getElem?_eq_some_iff.1 hu).1
            simpa using this
          obtain ⟨y, h2, _⟩ := key j hj
          simp only [List.getElem?_map, List.getElem?_range hj, Option.map_some, h2, Option.getD_some, Option.some.injEq] at hu
          rw [Addr.add_mid, h2, hu]
        · obtain ⟨q, hq, rfl⟩ := List.mem_map.1 hu
          obtain ⟨y, h2, h3⟩ := key q (List.mem_range.1 hq)
          rw [h2]
          exact h3
        · obtain ⟨y, h2, h3⟩ := hx i hi j hj
          refine ⟨y, ?_, h3⟩
          simp only [List.getElem?_map, List.getElem?_range (mul_lt hi hj), Option.map_some, h2, Option.getD_some]
  cases x with
  | nil =>
    simp only [srcA, Option.some.injEq, Prod.mk.injEq] at hs
    obtain ⟨rfl, rfl, rfl⟩ := hs
    simp only [RelV] at r
    exact ⟨none, 0, r, .inl ⟨rfl, rfl, rfl⟩⟩
  | p a =>
    cases a <;> try (simp [srcA] at hs; done)
    simp only [srcA, Option.some.injEq, Prod.mk.injEq] at hs
    obtain ⟨rfl, rfl, rfl⟩ := hs
    simp only [RelV] at r
    exact rep r
  | sref id e sz' n' =>
    simp only [srcA] at hs
    rcases hlk id with hf | hf
    · simp [hf] at hs
    rw [hf] at hs
    have ho := hi.objs id
    simp only [RelV] at r
    cases hob : look c.hp id with
    | free => simp [hob] at hs
    | dead => simp [hob] at hs
    | box cs => simp [hob] at hs
    | reg g => simp [hob] at hs
    | arr own e1 sz1 m1 h1 =>
      simp only [hob, Option.some.injEq, Prod.mk.injEq] at hs
      obtain ⟨rfl, rfl, rfl⟩ := hs
      rw [hob] at ho r
      obtain ⟨_, rfl, rfl, rfl, hk⟩ := r
      obtain ⟨h0, xs, hown, hx, hone, _⟩ := ho
      rw [← hk] at hown
      rcases hown.2 with ⟨hv, hm⟩ | ⟨g', cap, cur, hv, _⟩
      · exact ⟨none, 0, by rw [hv, hm], .inl ⟨rfl, hm, rfl⟩⟩
      · refine ⟨_, _, hv, .inr ⟨_, xs, rfl, hown.1, ?_, hone, hx⟩⟩
        exact hown.cells (by rw [hv]; rfl)
  | u => simp [srcA] at hs
  | und => simp [srcA] at hs
  | agg cs => simp [srcA] at hs
  | ptr id i j => simp [srcA] at hs
  | ssub id e sz' lo n' =>
    simp only [srcA] at hs
    rcases hlk id with hf | hf
    · simp [hf] at hs
    rw [hf] at hs
    have ho := hi.objs id
    simp only [RelV] at r
    cases hob : look c.hp id with
    | free => simp [hob] at hs
    | dead => simp [hob] at hs
    | box cs => simp [hob] at hs
    | reg g => simp [hob] at hs
    | arr own e1 sz1 m1 h1 =>
      simp only [hob, Option.some.injEq, Prod.mk.injEq] at hs
      obtain ⟨rfl, rfl, rfl⟩ := hs
      rw [hob] at ho r
      obtain ⟨_, rfl, rfl, hlm, b, cap0, hk, rfl⟩ := r
      obtain ⟨h0, xs, hown, hx, hone, _⟩ := ho
      rw [hk] at hown
      have hcap : m1 ≤ cap0 := by
        rcases hown.2 with ⟨hv, hm⟩ | ⟨g', cap, cur, hv, _, _, hnc, _⟩
        · omega
        · simp only [Value.slice.injEq] at hv
          obtain ⟨_, _, rfl⟩ := hv
          exact hnc
      refine ⟨_, _, rfl, ?_⟩
      rcases hown.2 with ⟨hv, hm⟩ | ⟨g', cap, cur, hv, _⟩
      · simp only [Value.slice.injEq] at hv
        obtain ⟨rfl, _, rfl⟩ := hv
        left
        refine ⟨by split <;> rfl, by omega, by omega⟩
      · simp only [Value.slice.injEq] at hv
        obtain ⟨rfl, _, rfl⟩ := hv
        right
        by_cases hn : n' = 0
        · subst hn
          have hsome : ∃ a, (if cap0 = lo then some (⟨g', 0, none⟩ : Addr) else (some (⟨g', 0, none⟩ : Addr)).map (·.add (lo * sz1))) = some a := by split <;> exact ⟨_, rfl⟩
          obtain ⟨a, ha⟩ := hsome
          exact ⟨a, [], ha, by simp, fun j u hu => by simp at hu, fun u hu => by simp at hu, fun i hi => by omega⟩
        · refine ⟨⟨g', 0 + lo * sz1, none⟩, (xs.drop (lo * sz1)).take (n' * sz1), by rw [if_neg (by omega), Option.map_some, Addr.add_mid], ?_, fun j u hu => ?_, fun u hu => hone u (List.mem_of_mem_drop (List.mem_of_mem_take hu)), fun i hi j hj => ?_⟩
          · rw [List.length_take, List.length_drop, hown.1]
            have : (lo + n') * sz1 ≤ m1 * sz1 := Nat.mul_le_mul_right _ hlm
            rw [Nat.add_mul] at this
            omega
          · rw [List.getElem?_take] at hu
            split at hu
            · rw [List.getElem?_drop] at hu
              have hcl := hown.cells (g := g') rfl (lo * sz1 + j) u hu
              rw [Addr.add_mid] at hcl ⊢
              rw [show 0 + lo * sz1 + j = 0 + (lo * sz1 + j) from by omega]
              exact hcl
            · cases hu
          · obtain ⟨y, hy1, hy2⟩ := hx (lo + i) (by omega) j hj
            refine ⟨y, ?_, hy2⟩
            rw [List.getElem?_take, if_pos (mul_lt hi hj), List.getElem?_drop, ← hy1]
            congr 1
            rw [Nat.add_mul]
            omega
  | vptr m f => simp [srcA] at hs
  | fn f cs => simp [srcA] at hs
  | tup us => simp [srcA] at hs
  | mref id mm => simp [srcA] at hs
theorem app_own {P : Program} (w : World) (t ty e : TypeId) (i : TypeInfo) (z : Value) (ht : P.underlying t = some (.slice e)) (hi : P.info? e = some i) (hz : i.zero = some z) (hzs : z.cells.size = i.size) (hsz : 0 < i.size)
    (v : Value) (n : Nat) (xs : List Value) (hown : w.ownsRow 0 e i.size v n xs) (a : Addr) (m c : Nat) (news : List Value) (hl : news.length = m * i.size) (hnews : ∀ j u, news[j]? = some u → w.cell? (a.add j) = some u) (h1 : ∀ u ∈ news, u.oneCell' = true)
    (h63 : n + m ≤ maxLen) (hbytes : (n + m) * i.bytes ≤ 140737488355328) :
    ∃ v' w', (Builtin.append_ #[t, t] ty #[v, .slice (some a) m c]).run P w = .ok v' w' ∧ w'.ownsRow 0 e i.size v' (n + m) (xs ++ news) ∧ w.grownBy w' v.ownBlock ∧ (∀ b, blk v' = some b → blk v = some b ∨ w.heap.size ≤ b) ∧ w.drawn ≤ w'.drawn := by
  obtain ⟨v', w', hr, h2, h3, h4⟩ := run_append_own (P := P) w 0 t ty e i z i.size i.bytes ht hi hz rfl rfl hzs hsz v n xs hown a m c news hl hnews h1 h63 hbytes (Nat.zero_le _)
  refine ⟨v', w', hr, h2, h3, fun b hb => ?_, ?_⟩
  rotate_left
  · rcases hown.2 with ⟨rfl, rfl⟩ | ⟨g, cap, cur, rfl, hbg, hg, hnc, hcm, hcs, htake⟩
    · by_cases hm : m = 0
      · subst hm
        have hr2 : (Builtin.append_ #[t, t] ty #[.slice none 0 0, .slice (some a) 0 c]).run P w = .ok (.slice none 0 0) w := by
          simp [Builtin.append_, run_underlying ht, sizeOf, typeInfo, hi, Builtin.lenOf, Builtin.firstCells, loadCells, loadCellsFrom]
        rw [hr] at hr2
        injection hr2 with _ e2
        rw [e2]
        exact Nat.le_refl _
      · have hr2 := run_append_nil (P := P) w t ty e i z ht hi hz a m c news hl hnews (by omega) (by simp only [maxLen] at h63; omega) (by have hb := hbytes; simp only [Nat.zero_add] at hb; omega)
        rw [hr] at hr2
        injection hr2 with _ e2
        rw [e2]
        exact Nat.le_succ _
    · by_cases hroom : n + m ≤ cap
      · have hfit : n * i.size + news.length ≤ cur.size := by rw [hl, hcs, ← Nat.add_mul]; exact Nat.mul_le_mul_right _ hroom
        have hr2 := run_append_room (P := P) w t ty e i ht hi g n cap cur hg a m c news hl hnews h1 hroom hfit
        rw [hr] at hr2
        injection hr2 with _ e2
        rw [e2]
        exact Nat.le_refl _
      · have holds : ∀ j u, xs[j]? = some u → w.cell? ((⟨g, 0, none⟩ : Addr).add j) = some u := hown.cells (g := g) rfl
        have hr2 := run_append_grow (P := P) w t ty e i z ht hi hz ⟨g, 0, none⟩ n cap xs hown.1 holds a m c news hl hnews (by omega) (by simp only [maxLen] at h63; omega) (growslice_fits (by omega) hbytes)
        rw [hr] at hr2
        injection hr2 with _ e2
        rw [e2]
        exact Nat.le_succ _
  rcases hown.2 with ⟨rfl, rfl⟩ | ⟨g, cap, cur, rfl, hbg, hg, hnc, hcm, hcs, htake⟩
  · obtain ⟨v2, w2, hr2, h22, _⟩ := run_append_own (P := P) w w.heap.size t ty e i z i.size i.bytes ht hi hz rfl rfl hzs hsz (.slice none 0 0) 0 xs ⟨hown.1, .inl ⟨rfl, rfl⟩⟩ a m c news hl hnews h1 h63 hbytes (Nat.le_refl _)
    rw [hr] at hr2
    injection hr2 with e1 e2
    subst e1 e2
    right
    rcases h22.2 with ⟨rfl, _⟩ | ⟨g, _, _, rfl, hg, _⟩
    · simp [blk] at hb
    · simp only [blk, Option.some.injEq] at hb
      omega
  · by_cases hroom : n + m ≤ cap
    · have hfit : n * i.size + news.length ≤ cur.size := by rw [hl, hcs, ← Nat.add_mul]; exact Nat.mul_le_mul_right _ hroom
      have hr2 := run_append_room (P := P) w t ty e i ht hi g n cap cur hg a m c news hl hnews h1 hroom hfit
      rw [hr] at hr2
      injection hr2 with e1 e2
      subst e1
      exact .inl hb
    · have holds : ∀ j u, xs[j]? = some u → w.cell? ((⟨g, 0, none⟩ : Addr).add j) = some u := hown.cells (g := g) rfl
      have hr2 := run_append_grow (P := P) w t ty e i z ht hi hz ⟨g, 0, none⟩ n cap xs hown.1 holds a m c news hl hnews (by omega) (by simp only [maxLen] at h63; omega) (growslice_fits (by omega) hbytes)
      rw [hr] at hr2
      injection hr2 with e1 e2
      subst e1
      simp only [blk, Option.some.injEq] at hb
      right
      omega
theorem ownBlock_blk {v : Value} {e : TypeId} {sz n : Nat} {xs : List Value} {w : World} (h : w.ownsRow 0 e sz v n xs) : v.ownBlock = blk v := by
  rcases h.2 with ⟨rfl, _⟩ | ⟨g, _, _, rfl, _⟩ <;> rfl
theorem one_append {xs news : List Value} (h : ∀ u, u ∈ xs → u.oneCell' = true) (h' : ∀ u, u ∈ news → u.oneCell' = true) : ∀ u, u ∈ xs ++ news → u.oneCell' = true := fun u hu => (List.mem_append.1 hu).elim (h u) (h' u)
theorem app_cells {c : Cx} {n m sz : Nat} {f h : Nat → Nat → AV} {xs news : List Value} (hx : xs.length = n * sz) (h1 : ∀ i, i < n → ∀ j, j < sz → ∃ y, xs[i * sz + j]? = some y ∧ Rep c.F c.w (f i j) y) (h2 : ∀ i, i < m → ∀ j, j < sz → ∃ y, news[i * sz + j]? = some y ∧ Rep c.F c.w (h i j) y) :
    ∀ i, i < n + m → ∀ j, j < sz → ∃ y, (xs ++ news)[i * sz + j]? = some y ∧ Rep c.F c.w (appA n f h i j) y := by
  intro i hi j hj
  unfold appA
  by_cases hn : i < n
  · rw [if_pos hn, List.getElem?_append_left (by rw [hx]; exact mul_lt hn hj)]
    exact h1 i hn j hj
  · rw [if_neg hn]
    have hge : n * sz ≤ i * sz := Nat.mul_le_mul_right sz (by omega)
    rw [List.getElem?_append_right (by omega), hx, show i * sz + j - n * sz = (i - n) * sz + j from by rw [Nat.sub_mul]; omega]
    exact h2 (i - n) (by omega) j hj
theorem dstA_ok {E : En} {c : Cx} (hi : Inv E c) {lk : Nat → Ob} (hlk : ∀ id, lk id = .free ∨ lk id = look c.hp id) {x : FV} {v : Value} {id e sz n : Nat} {f : Nat → Nat → AV} (hs : dstA x lk = some (id, e, sz, n, f)) (r : RelV c x v) :
    (look c.hp id).mut = true ∧ (∃ base cap, v = .slice base n cap) ∧ blk v = blk (c.κ id) ∧ (∀ b, blk v = some b → ¬ c.F b) ∧ ∃ xs, c.w.ownsRow 0 e sz v n xs ∧ (∀ i, i < n → ∀ j, j < sz → ∃ y, xs[i * sz + j]? = some y ∧ Rep c.F c.w (f i j) y) ∧ (∀ u, u ∈ xs → u.oneCell' = true) := by
  cases x <;> try (simp [dstA] at hs; done)
  · rename_i id0 e0 sz0 n0
    simp only [dstA] at hs
    split at hs
    case h_2 => cases hs
    rename_i e1 sz1 n1 f1 hl
    simp only [Option.some.injEq, Prod.mk.injEq] at hs
    obtain ⟨rfl, rfl, rfl, rfl, rfl⟩ := hs
    have hob : look c.hp id0 = .arr true e1 sz1 n1 f1 := by
      rcases hlk id0 with hf | hf
      · rw [hf] at hl; cases hl
      · rw [← hf]; exact hl
    have ho := hi.objs id0
    simp only [RelV] at r
    rw [hob] at ho r
    obtain ⟨⟨base, cap, hv, _⟩, rfl, rfl, rfl, hk⟩ := r
    obtain ⟨h0, xs, hown, hx, hone, hF⟩ := ho
    rw [← hk] at hown
    exact ⟨by rw [hob]; rfl, ⟨base, cap, hv⟩, by rw [hk], fun b hb => (hF b (by rw [← hk]; exact hb)).1 rfl, xs, hown, hx, hone⟩
  · rename_i id0 e0 sz0 lo n0
    simp only [dstA] at hs
    split at hs
    case isFalse => cases hs
    rename_i hlo
    subst hlo
    split at hs
    case h_2 => cases hs
    rename_i e1 sz1 n1 f1 hl
    simp only [Option.some.injEq, Prod.mk.injEq] at hs
    obtain ⟨rfl, rfl, rfl, rfl, rfl⟩ := hs
    have hob : look c.hp id0 = .arr true e1 sz1 n1 f1 := by
      rcases hlk id0 with hf | hf
      · rw [hf] at hl; cases hl
      · rw [← hf]; exact hl
    have ho := hi.objs id0
    simp only [RelV] at r
    rw [hob] at ho r
    obtain ⟨_, rfl, rfl, hle, b, cap0, hk, hv⟩ := r
    obtain ⟨h0, xs, hown, hx, hone, hF⟩ := ho
    have hb : (if cap0 = 0 then b else b.map (·.add (0 * sz1))) = b := by
      split
      · rfl
      · cases b <;> simp [Addr.add]
    rw [hb, Nat.sub_zero] at hv
    have hbk : blk v = blk (c.κ id0) := by rw [hv, hk]; cases b <;> rfl
    rw [hk] at hown
    refine ⟨by rw [hob]; rfl, ⟨b, cap0, hv⟩, hbk, fun b' hb' => (hF b' (by rw [← hbk]; exact hb')).1 rfl, xs.take (n0 * sz1), ?_, fun i hi' j hj => ?_, fun u hu => hone u (List.mem_of_mem_take hu)⟩
    · have hnm : n0 * sz1 ≤ n1 * sz1 := Nat.mul_le_mul_right _ (by omega)
      refine ⟨by rw [List.length_take, hown.1]; omega, ?_⟩
      rcases hown.2 with ⟨h1, h2⟩ | ⟨g', cap, cur, h1, h2, h3, h4, h5, h6, h7⟩
      · simp only [Value.slice.injEq] at h1
        obtain ⟨rfl, _, rfl⟩ := h1
        have : n0 = 0 := by omega
        subst this
        exact .inl ⟨hv, rfl⟩
      · simp only [Value.slice.injEq] at h1
        obtain ⟨rfl, _, rfl⟩ := h1
        refine .inr ⟨g', cap0, cur, hv, h2, h3, by omega, h5, h6, ?_⟩
        rw [← h7, List.take_take]
        congr 1
        omega
    · obtain ⟨y, h1, h2⟩ := hx i (by omega) j hj
      exact ⟨y, by rw [List.getElem?_take, if_pos (mul_lt hi' hj)]; exact h1, h2⟩
theorem step_app {P : Program} {E : En} {c : Cx} (hi : Inv E c) {lk : Nat → Ob} (hlk : ∀ id, lk id = .free ∨ lk id = look c.hp id) {g : Nat} (hg : look c.hp g = .free ∧ g < c.hp.length) {t ty : TypeId} {s x : FV} {rs : Rs} {v u : Value}
    (h : appF P t s x lk g = some rs) (hob : rs.ob) (r : RelV c s v) (rx : RelV c x u) :
    Step1 E c rs ((do pure (Next.value (← Builtin.append_ #[t, t] ty #[v, u])) : Sem Next).run P c.w) := by
  unfold appF at h
  split at h
  case h_2 => cases h
  rename_i e ht
  split at h
  case h_2 => cases h
  rename_i i hq
  split at h
  case h_2 => cases h
  rename_i z hz
  split at h
  case isFalse => cases h
  rename_i hsz
  obtain ⟨hsz, hzs⟩ := hsz
  split at h
  case h_2 => cases h
  rename_i sz m hh hsrc
  split at h
  case isFalse => cases h
  rename_i hszm
  obtain ⟨base, cap, rfl, hnews⟩ := srcA_ok hi hlk hsrc rx
  have hnews' : Src c base m cap i.size hh := by
    rcases hnews with hnews | ⟨a, news, h1, h2, h3, h4, h5⟩
    · exact .inl hnews
    · rcases hszm with rfl | rfl
      · exact .inr ⟨a, news, h1, h2, h3, h4, h5⟩
      · exact .inr ⟨a, [], h1, by simp, fun j u hu => by simp at hu, fun u hu => by simp at hu, fun q hq => by omega⟩
  clear hnews
  split at h
  · simp only [Option.some.injEq] at h
    subst h
    simp only [RelV] at r
    subst r
    obtain ⟨hm, hb⟩ := hob
    rcases hnews' with ⟨rfl, rfl, rfl⟩ | ⟨a, news, rfl, h2, h3, h4, h5⟩
    · have hrun := run_append_owned_none (P := P) (w := c.w) 0 t ty e i i.size ht hq (.slice none 0 0) 0 [] (World.ownsRow_nil _ _ _ _)
      obtain ⟨i1, l1⟩ := hi.new (w' := c.w) (g := g) (v := .slice none 0 0) (o := .arr true e i.size 0 hh) (Chg.refl _ _) hg.1 hg.2 (fun b hb => by simp [blk] at hb)
        (fun _ => ⟨hsz, [], World.ownsRow_nil _ _ _ _, fun i hi => by omega, fun u hu => by simp at hu, fun b hb => by simp [blk] at hb⟩)
      refine ⟨_, _, ⟨c.F, c.w, _, _⟩, by rw [Sem.run_bind, hrun]; rfl, .inl rfl, i1, l1, rfl, ?_⟩
      simp only [RelV]
      refine ⟨⟨none, 0, rfl, by simp⟩, ?_⟩
      show RefS (look (c.hp.set g _) g) (upd c.κ g _ g) _ _ _ _
      rw [look_set_same _ hg.2, upd_same]
      exact ⟨rfl, rfl, rfl, rfl⟩
    · obtain ⟨v', w', hrun, ho, hgr, hbk, hdr⟩ := app_own (P := P) c.w t ty e i z ht hq hz hzs hsz (.slice none 0 0) 0 [] (World.ownsRow_nil _ _ _ _) a m cap news h2 h3 h4 (by omega) (by rw [Nat.zero_add]; exact hb)
      simp only [Nat.zero_add, List.nil_append] at ho
      obtain ⟨i1, l1⟩ := hi.new (w' := w') (g := g) (v := v') (o := .arr true e i.size m hh) ⟨hgr.os, hgr.tape, hgr.output, hdr, hgr.size, fun b hb _ => hgr.block b hb (by simp [Value.ownBlock])⟩ hg.1 hg.2
        (fun b hb => (hbk b hb).resolve_left (by simp [blk]))
        (fun hle => ⟨hsz, news, ho, fun q hq j hj => by obtain ⟨y, g1, g2⟩ := h5 q hq j hj; exact ⟨y, g1, Rep.mono hle.F hle.w _ _ g2⟩, h4, fun b hb => ⟨fun _ hF => by
          have := hi.lt b hF
          have := (hbk b hb).resolve_left (by simp [blk])
          omega, fun h => by simp at h⟩⟩)
      have hv' : ∃ base cap, v' = .slice base m cap ∧ (m = 0 ∨ ∃ a, base = some a) := by
        rcases ho.2 with ⟨rfl, rfl⟩ | ⟨g', cap', _, rfl, _⟩
        · exact ⟨none, 0, rfl, .inl rfl⟩
        · exact ⟨_, _, rfl, .inr ⟨_, rfl⟩⟩
      refine ⟨_, _, ⟨c.F, w', _, _⟩, by rw [Sem.run_bind, hrun]; rfl, .inl rfl, i1, l1, rfl, ?_⟩
      simp only [RelV]
      refine ⟨hv', ?_⟩
      show RefS (look (c.hp.set g _) g) (upd c.κ g _ g) _ _ _ _
      rw [look_set_same _ hg.2, upd_same]
      exact ⟨rfl, rfl, rfl, rfl⟩
  · split at h
    case h_2 => cases h
    rename_i id e' sz' n f hdst
    split at h
    case isFalse => cases h
    rename_i hcond
    obtain ⟨rfl, rfl⟩ := hcond
    simp only [Option.some.injEq] at h
    subst h
    obtain ⟨hm, hb⟩ := hob
    obtain ⟨hmut, ⟨vb, vc, hvv⟩, hbk0, hnF, xs, hown, hx, hone⟩ := dstA_ok hi hlk hdst r
    have hlast : ∀ (v' : Value) (w' : World) (news : List Value), Chg (fun b => blk (c.κ id) = some b) c.w w' → w'.ownsRow 0 e' i.size v' (n + m) (xs ++ news) → (∀ b, blk v' = some b → blk v = some b ∨ c.w.heap.size ≤ b) →
        (∀ u, u ∈ news → u.oneCell' = true) → (∀ q, q < m → ∀ j, j < i.size → ∃ y, news[q * i.size + j]? = some y ∧ Rep c.F c.w (hh q j) y) →
        (Builtin.append_ #[t, t] ty #[v, .slice base m cap]).run P c.w = .ok v' w' →
        Step1 E c ⟨.sref g e' i.size (n + m), [(id, .dead), (g, .arr true e' i.size (n + m) (appA n f hh))], some (n + m ≤ maxLen ∧ (n + m) * i.bytes ≤ 140737488355328)⟩ ((do pure (Next.value (← Builtin.append_ #[t, t] ty #[v, .slice base m cap])) : Sem Next).run P c.w) := by
      intro v' w' news hc ho hbk h4 h5 hrun
      obtain ⟨i1, l1⟩ := hi.move (w' := w') (id := id) (g := g) (v := v') (o := .arr true e' i.size (n + m) (appA n f hh)) hmut hg.1 hg.2 hc (fun b hb => by rw [← hbk0]; exact hbk b hb)
        (fun hle => ⟨hsz, xs ++ news, ho, fun q hq j hj => by
            obtain ⟨y, g1, g2⟩ := app_cells (c := c) hown.1 hx h5 q hq j hj
            exact ⟨y, g1, Rep.mono hle.F hle.w _ _ g2⟩, one_append hone h4, fun b hb => ⟨fun _ => by
          rcases hbk b hb with h | h
          · exact hnF b h
          · intro hFb
            have := hi.lt b hFb
            omega, fun h => by simp at h⟩⟩)
      have hv' : ∃ base cap, v' = .slice base (n + m) cap ∧ (n + m = 0 ∨ ∃ a, base = some a) := by
        rcases ho.2 with ⟨rfl, h0⟩ | ⟨g', cap', _, rfl, _⟩
        · exact ⟨none, 0, by rw [h0], .inl h0⟩
        · exact ⟨_, _, rfl, .inr ⟨_, rfl⟩⟩
      refine ⟨_, _, ⟨c.F, w', _, _⟩, by rw [Sem.run_bind, hrun]; rfl, .inl rfl, i1, l1, rfl, ?_⟩
      simp only [RelV]
      refine ⟨hv', ?_⟩
      show RefS (look ((c.hp.set id _).set g _) g) (upd c.κ g _ g) _ _ _ _
      rw [look_set_same _ (by simpa using hg.2), upd_same]
      exact ⟨rfl, rfl, rfl, rfl⟩
    rcases hnews' with ⟨rfl, rfl, rfl⟩ | ⟨a, news, rfl, h2, h3, h4, h5⟩
    · have hrun := run_append_owned_none (P := P) (w := c.w) 0 t ty e' i i.size ht hq v n xs hown
      exact hlast _ _ [] (Chg.refl _ _) (by simpa using hown) (fun b hb => .inl hb) (fun u hu => by simp at hu) (fun q hq => by omega) hrun
    · obtain ⟨v', w', hrun, ho, hgr, hbk, hdr⟩ := app_own (P := P) c.w t ty e' i z ht hq hz hzs hsz v n xs hown a m cap news h2 h3 h4 hm hb
      have hgr' := chg_grown hgr hdr
      rw [ownBlock_blk hown, hbk0] at hgr'
      exact hlast _ _ news hgr' ho hbk h4 h5 hrun
end Go.Proofs.YtjhnpaenhdbhpacV
set_option linter.unusedVariables false
set_option linter.unusedSimpArgs false
set_option linter.constructorNameAsVariable false
namespace Go.Proofs.YtjhnpaenhdbhpacV
open Go Go.RowKit
def placesF (P : Program) : List Field → Option (List (Nat × Nat))
  | [] => some []
  | f :: fs => match P.info? f.type with
    | some i => match placesF P fs with
      | some l => some ((f.offset, i.size) :: l)
      | none => none
    | none => none
def fillF (place : Nat → Option (Nat × Nat)) (cells : List FV) : List (Nat × FV) → Option (List FV)
  | [] => some cells
  | (i, v) :: rest => match place i with
    | none => none
    | some (off, size) => match cellsF v with
      | none => none
      | some vs => if vs.length = size ∧ off + vs.length ≤ cells.length then fillF place (lay cells off vs) rest else none
def buildF (P : Program) (t : TypeId) (parts : List (Nat × FV)) : Option Rs :=
  match P.info? t with
  | none => none
  | some i => match i.zero with
    | none => none
    | some z => match P.underlying t with
      | some (.struct fs) => match placesF P fs.toList with
        | none => none
        | some pl => match fillF (fun q => pl[q]?) (z.cells.toList.map constF) parts with
          | none => none
          | some cs => some ⟨.agg cs, [], none⟩
      | _ => none
def bsF (P : Program) (t : TypeId) (len : Nat) (parts : List (Nat × FV)) (lk : Nat → Ob) (g : Nat) : Option Rs :=
  match P.underlying t with
  | some (.slice e) => match P.info? e with
    | none => none
    | some i => match i.zero with
      | none => none
      | some _ => if 0 < i.size ∧ len * i.size ≤ 2 ^ 24 then
          match fillF (fun q => some (q * i.size, i.size)) (List.replicate (len * i.size) .u) parts with
          | none => none
          | some cs => match toAVs lk cs with
            | none => none
            | some ays => if (frzs lk cs).all (fun p => p.1 != g) = true then
                some ⟨.sref g e i.size len, frzs lk cs ++ [(g, .arr true e i.size len (fun a b => ays.getD (a * i.size + b) .u))], none⟩
              else none
        else none
  | _ => none
theorem foldl_set (cells : Array Value) (off : Nat) : ∀ (vs : List Value) (j : Nat), off + j + vs.length ≤ cells.size →
    ((vs.zipIdx j).foldl (fun (cs : Array Value) (p : Value × Nat) => cs.setIfInBounds (off + p.2) p.1) cells).toList = lay cells.toList (off + j) vs := by
  intro vs
  induction vs generalizing cells with
  | nil => intro j h; simp [lay]
  | cons v vs ih =>
    intro j h
    simp only [List.zipIdx_cons, List.foldl_cons]
    rw [ih (cells.setIfInBounds (off + j) v) (j + 1) (by simp at h ⊢; omega)]
    have e := list_seg_step cells.toList (off + j) v vs (by simp at h ⊢; omega)
    rw [Array.toList_setIfInBounds]
    simp only [lay, List.length_cons]
    rw [show off + (j + 1) = off + j + 1 from by omega]
    simpa [Nat.add_assoc, Nat.add_comm, Nat.add_left_comm] using e
theorem fill_ok {c : Cx} {place : Nat → Option (Nat × Nat)} : ∀ (parts : List (Nat × FV)) (vals : List (Nat × Value)) (cells : List FV) (C : Array Value) (out : List FV), fillF place cells parts = some out → RelVs c cells C.toList →
    parts.map (·.1) = vals.map (·.1) → RelVs c (parts.map (·.2)) (vals.map (·.2)) → ∃ D : Array Value, Instr.fill place C vals = some D ∧ RelVs c out D.toList ∧ D.size = C.size := by
  intro parts
  induction parts with
  | nil =>
    intro vals cells C out h hC hp hv
    cases vals with
    | nil => simp only [fillF, Option.some.injEq] at h; subst h; exact ⟨C, rfl, hC, rfl⟩
    | cons q qs => simp at hp
  | cons p ps ih =>
    intro vals cells C out h hC hp hv
    cases vals with
    | nil => simp at hp
    | cons q qs =>
      obtain ⟨i, x⟩ := p
      obtain ⟨i', v⟩ := q
      simp only [List.map_cons, List.cons.injEq] at hp
      obtain ⟨rfl, hp⟩ := hp
      simp only [List.map_cons, RelVs] at hv
      obtain ⟨v', vs', hv1, hx, hvs⟩ := hv
      simp only [List.cons.injEq] at hv1
      obtain ⟨rfl, rfl⟩ := hv1
      simp only [fillF] at h
      cases hpl : place i with
      | none => simp [hpl] at h
      | some os =>
        obtain ⟨off, size⟩ := os
        simp only [hpl] at h
        cases hc : cellsF x with
        | none => simp [hc] at h
        | some vs =>
          simp only [hc] at h
          split at h
          case isFalse => cases h
          rename_i hcond
          obtain ⟨hcs, h1⟩ := cellsF_rel hc hx
          have l1 := hcs.length
          have l2 := hC.length
          have l1' : v.cells.size = vs.length := by simpa using l1
          have l2' : C.size = cells.length := by simpa using l2
          have hset := foldl_set C off v.cells.toList 0 (by simp; omega)
          have hfold : (v.cells.zipIdx.foldl (fun (cs : Array Value) (p : Value × Nat) => cs.setIfInBounds (off + p.2) p.1) C).toList = lay C.toList off v.cells.toList := by
            rw [← Array.foldl_toList, Array.toList_zipIdx]
            simpa using hset
          obtain ⟨D, hD1, hD2, hD3⟩ := ih qs (lay cells off vs) (v.cells.zipIdx.foldl (fun (cs : Array Value) (p : Value × Nat) => cs.setIfInBounds (off + p.2) p.1) C) out h (by rw [hfold]; exact relVs_lay hC hcs off (by omega)) hp hvs
          refine ⟨D, ?_, hD2, ?_⟩
          · rw [Instr.fill]
            simp only [hpl]
            rw [if_neg (by simp; omega)]
            exact hD1
          · rw [hD3]
            have := congrArg List.length hfold
            rw [Array.length_toList, length_lay (by simp; omega), Array.length_toList] at this
            exact this
theorem run_places {P : Program} (w : World) : ∀ (fs : List Field) (pl : List (Nat × Nat)), placesF P fs = some pl → (fs.mapM (m := Sem) fun f => do pure (f.offset, ← sizeOf f.type)).run P w = .ok pl w := by
  intro fs
  induction fs with
  | nil => intro pl h; simp only [placesF, Option.some.injEq] at h; subst h; rfl
  | cons f fs ih =>
    intro pl h
    simp only [placesF] at h
    cases hq : P.info? f.type with
    | none => simp [hq] at h
    | some i =>
      cases hr : placesF P fs with
      | none => simp [hq, hr] at h
      | some l =>
        simp only [hq, hr, Option.some.injEq] at h
        subst h
        simp only [List.mapM_cons, Sem.run_bind, run_size hq, Result.andThen_ok, ih l hr, Sem.run_pure]
theorem relVs_const (c : Cx) (l : List Value) : RelVs c (l.map constF) l := by
  refine RelVs.of_get (by simp) fun i v hv h => ?_
  simp only [List.getElem_map]
  have : l[i]'(by simpa using h) = v := by
    rw [List.getElem?_eq_getElem (by simpa using h)] at hv
    exact Option.some.inj hv
  rw [this]
  exact relV_const c v
theorem step_build {P : Program} {E : En} {c : Cx} (hi : Inv E c) {t : TypeId} {parts : List (Nat × FV)} {vals : Array (Nat × Value)} {rs : Rs} (h : buildF P t parts = some rs) (hp : parts.map (·.1) = vals.toList.map (·.1)) (hv : RelVs c (parts.map (·.2)) (vals.toList.map (·.2))) :
    Step1 E c rs ((do pure (Next.value (← Instr.build t vals)) : Sem Next).run P c.w) := by
  unfold buildF at h
  cases hq : P.info? t with
  | none => simp [hq] at h
  | some i =>
    cases hz : i.zero with
    | none => simp [hq, hz] at h
    | some z =>
      simp only [hq, hz] at h
      split at h
      case h_2 => cases h
      rename_i fs hu
      cases hpl : placesF P fs.toList with
      | none => simp [hpl] at h
      | some pl =>
        simp only [hpl] at h
        cases hf : fillF (fun q => pl[q]?) (z.cells.toList.map constF) parts with
        | none => simp [hf] at h
        | some cs =>
          simp only [hf, Option.some.injEq] at h
          subst h
          obtain ⟨D, hD, hR, _⟩ := fill_ok parts vals.toList _ z.cells cs hf (relVs_const c _) hp hv
          refine step_pure hi (v := .agg D) ?_ (by simp only [RelV]; exact ⟨D, rfl, hR⟩)
          have hpl' := run_places c.w fs.toList pl hpl
          have hmap : (fs.mapM (m := Sem) fun f => do pure (f.offset, ← sizeOf f.type)).run P c.w = .ok pl.toArray c.w := by
            rw [Array.mapM_eq_mapM_toList, Sem.run_map, hpl']
            rfl
          simp only [bind_pure_comp] at hmap
          have hget : (fun q : Nat => pl.toArray[q]?) = (fun q : Nat => pl[q]?) := by funext q; simp
          simp [Instr.build, zeroValue, typeInfo, hq, hz, run_underlying hu, hmap, hD]
theorem step_bs {P : Program} {E : En} {c : Cx} (hi : Inv E c) {lk : Nat → Ob} (hlk : ∀ id, lk id = .free ∨ lk id = look c.hp id) {g : Nat} (hg : look c.hp g = .free ∧ g < c.hp.length) {t : TypeId} {len : Nat} {parts : List (Nat × FV)} {vals : Array (Nat × Value)} {rs : Rs} (h : bsF P t len parts lk g = some rs)
    (hp : parts.map (·.1) = vals.toList.map (·.1)) (hv : RelVs c (parts.map (·.2)) (vals.toList.map (·.2))) :
    Step1 E c rs ((do pure (Next.value (← Instr.buildSlice t len vals)) : Sem Next).run P c.w) := by
  unfold bsF at h
  split at h
  case h_2 => cases h
  rename_i e hu
  cases hq : P.info? e with
  | none => simp [hq] at h
  | some i =>
    cases hz : i.zero with
    | none => simp [hq, hz] at h
    | some z =>
      simp only [hq, hz] at h
      split at h
      case isFalse => cases h
      rename_i hcond
      obtain ⟨hsz, hsm⟩ := hcond
      cases hf : fillF (fun q => some (q * i.size, i.size)) (List.replicate (len * i.size) .u) parts with
      | none => simp [hf] at h
      | some cs =>
        simp only [hf] at h
        cases hav : toAVs lk cs with
        | none => simp [hav] at h
        | some ays =>
          simp only [hav] at h
          split at h
          case isFalse => cases h
          rename_i hnot
          simp only [Option.some.injEq] at h
          subst h
          have hrep : ∀ C : Array Value, C.size = len * i.size → RelVs c (List.replicate (len * i.size) .u) C.toList := fun C hC =>
            RelVs.of_get (by simp [hC]) fun q u _ hq => by simp [RelV]
          obtain ⟨C0, hC0, hC0s⟩ : ∃ C0 : Array Value, (if len * i.size = 0 then (#[] : Array Value) else (Array.range (len * i.size)).map (z.cells[· % z.cells.size]!)) = C0 ∧ C0.size = len * i.size := by
            refine ⟨_, rfl, ?_⟩
            split
            · rename_i h0; simp [h0]
            · simp
          obtain ⟨D, hD, hR, hDs⟩ := fill_ok parts vals.toList _ C0 cs hf (hrep C0 hC0s) hp hv
          obtain ⟨F1, i1, l1, k1, e1, r1⟩ := frzs_ok lk cs ays c _ hi (fun z => (hlk z).imp (fun hz => hz) (fun hz => .inl hz.symm)) hav hR
          have hlook : look (setUps c.hp (frzs lk cs)) g = .free := (look_frzs cs c.hp hnot).trans hg.1
          have hlen : ∀ (ups : List (Nat × Ob)) (hp : List Ob), (setUps hp ups).length = hp.length := by
            intro ups
            induction ups with
            | nil => intro hp; rfl
            | cons u us ih => intro hp; show (setUps (hp.set u.1 u.2) us).length = _; rw [ih]; simp
          have hgl : g < (setUps c.hp (frzs lk cs)).length := by rw [hlen]; exact hg.2
          have hrun : (Instr.buildSlice t len vals).run P c.w = .ok (.slice (some ⟨c.w.heap.size, 0, none⟩) len len) (c.w.alloc (.cells D e)) := by
            by_cases h0 : len * i.size = 0
            · rw [if_pos h0] at hC0
              subst hC0
              simp [Instr.buildSlice, run_underlying hu, run_size hq, h0, Array.range_zero', hD, newRow]
            · rw [if_neg h0] at hC0
              subst hC0
              exact run_buildSlice c.w t e len vals D i z hu hq hz (by omega) h0 hD
          have hDl : D.size = len * i.size := by rw [hDs, hC0s]
          have hAD : ∀ (q : Nat) (v : Value), D.toList[q]? = some v → Rep F1 c.w (ays.getD q .u) v := by
            intro q v hqv
            have hlt : q < ays.length := by
              have := (List.getElem?_eq_some_iff.1 hqv).1
              omega
            exact r1 q _ v (by rw [List.getD_eq_getElem?_getD, List.getElem?_eq_getElem hlt]; rfl) hqv
          have hmax : len ≤ maxLen := by
            have : len ≤ len * i.size := Nat.le_mul_of_pos_right _ hsz
            simp only [maxLen]
            omega
          obtain ⟨i2, l2⟩ := i1.new (w' := c.w.alloc (.cells D e)) (g := g) (v := .slice (some ⟨c.w.heap.size, 0, none⟩) len len) (o := .arr true e i.size len (fun a b => ays.getD (a * i.size + b) .u)) (chg_alloc _ _ _) hlook hgl
            (fun b hb => by simp only [blk, Option.some.injEq] at hb; show c.w.heap.size ≤ b; omega)
            (fun hle => ⟨hsz, D.toList, World.ownsRow_lit c.w D len (Nat.zero_le _) hmax hDl, fun a ha b hb => by
                have hlt := mul_lt ha hb
                obtain ⟨y, hy⟩ : ∃ y, D.toList[a * i.size + b]? = some y := ⟨_, List.getElem?_eq_getElem (by rw [Array.length_toList, hDl]; exact hlt)⟩
                exact ⟨y, hy, Rep.mono hle.F hle.w _ _ (hAD _ y hy)⟩,
              fun u hu => by
                obtain ⟨q, hq⟩ := List.mem_iff_getElem?.1 hu
                exact (hAD q u hq).one,
              fun b hb => ⟨fun _ hF => by
                simp only [blk, Option.some.injEq] at hb
                have := i1.lt b hF
                simp only at this
                omega, fun h => by simp at h⟩⟩)
          refine ⟨_, _, _, by rw [Sem.run_bind, hrun]; rfl, .inl rfl, i2, Le.trans l1 l2, by simp [setUps_append, setUps], ?_⟩
          simp only [RelV]
          refine ⟨⟨_, _, rfl, .inr ⟨_, rfl⟩⟩, ?_⟩
          show RefS (look ((setUps c.hp (frzs lk cs)).set g _) g) (upd c.κ g _ g) _ _ _ _
          rw [look_set_same _ hgl, upd_same]
          exact ⟨rfl, rfl, rfl, rfl⟩
def cvF (P : Program) (src dst : TypeId) (x : FV) : Option Rs :=
  match x with
  | .p (.int _ n) => match P.underlying src, P.underlying dst with
    | some _, some (.int k) => some ⟨.p (.int k (k.wrap n)), [], none⟩
    | _, _ => none
  | _ => none
theorem step_cv {P : Program} {E : En} {c : Cx} (hi : Inv E c) {src dst : TypeId} {x : FV} {rs : Rs} {v : Value} (h : cvF P src dst x = some rs) (r : RelV c x v) :
    Step1 E c rs ((do pure (Next.value (← convert src dst v)) : Sem Next).run P c.w) := by
  unfold cvF at h
  split at h
  case h_2 => cases h
  rename_i k n
  split at h
  case h_2 => cases h
  rename_i d k' hs hd
  simp only [Option.some.injEq] at h
  subst h
  simp only [RelV, Rep] at r
  subst r
  refine step_pure hi (v := .int k' (k'.wrap n)) ?_ (by simp only [RelV, Rep])
  simp [convert, run_underlying hs, run_underlying hd, Conv.intToInt]
def ixF (P : Program) (t : TypeId) (x ix : FV) : Option Rs :=
  match P.underlying t with
  | some .string => match x, ix with
    | .p (.str s), .p (.int _ n) => some ⟨.p (.int .u8 (s.data.getD n.toNat 0).toNat), [], some (0 ≤ n ∧ n < s.size)⟩
    | _, _ => none
  | _ => none
theorem step_ix {P : Program} {E : En} {c : Cx} (hi : Inv E c) {t : TypeId} {x ix : FV} {rs : Rs} {v iv : Value} (h : ixF P t x ix = some rs) (hob : rs.ob) (r : RelV c x v) (ri : RelV c ix iv) :
    Step1 E c rs ((do pure (Next.value (← Instr.index t v iv)) : Sem Next).run P c.w) := by
  unfold ixF at h
  split at h
  case h_2 => cases h
  rename_i hu
  split at h
  case h_2 => cases h
  rename_i s k n
  simp only [Option.some.injEq] at h
  subst h
  obtain ⟨h0, h1⟩ := hob
  simp only [RelV, Rep] at r ri
  subst r ri
  have hlt : n.toNat < s.data.size := by
    have : s.size = s.data.size := rfl
    omega
  refine step_pure hi (v := .int .u8 (s.data.getD n.toNat 0).toNat) ?_ (by simp only [RelV, Rep])
  have hg : s[n.toNat]? = some (s.data.getD n.toNat 0) := by
    have h2 : n.toNat < s.size := hlt
    rw [getElem?_pos s n.toNat h2]
    congr 1
    unfold Array.getD
    rw [dif_pos hlt]
    rfl
  simp [Instr.index, asIntOf, run_underlying hu, h0, hg]
def bndF (x : Option FV) (d : Int) : Option Int :=
  match x with
  | none => some d
  | some (.p (.int _ n)) => some n
  | _ => none
def slF (P : Program) (t : TypeId) (x : FV) (lo hi mx : Option FV) (lk : Nat → Ob) : Option Rs :=
  match mx with
  | some _ => none
  | none => match P.underlying t with
    | some .string => match x with
      | .p (.str s) => match bndF lo 0, bndF hi s.size with
        | some l, some h => some ⟨.p (.str (s.extract l.toNat h.toNat)), [], some (0 ≤ l ∧ l ≤ h ∧ h ≤ s.size)⟩
        | _, _ => none
      | _ => none
    | some (.slice e) => match P.info? e with
      | none => none
      | some i => match x with
        | .p (.sl sz n f) => if sz = i.size then match bndF lo 0, bndF hi n with
            | some l, some h => some ⟨.p (.sl sz (h.toNat - l.toNat) (fun a b => f (l.toNat + a) b)), [], some (0 ≤ l ∧ l ≤ h ∧ h ≤ n)⟩
            | _, _ => none
          else none
        | .sref id e' sz n => match lk id with
          | .arr _ _ _ _ _ => if sz = i.size then match bndF lo 0, bndF hi n with
              | some l, some h => some ⟨.ssub id e' sz l.toNat (h.toNat - l.toNat), [], some (0 ≤ l ∧ l ≤ h ∧ h ≤ n)⟩
              | _, _ => none
            else none
          | _ => none
        | _ => none
    | _ => none
theorem bnd_run {P : Program} {c : Cx} {isS : Bool} {len cap : Nat} {lo hi : Option FV} {lv hv : Option Value} {l h : Int} (hl : bndF lo 0 = some l) (hh : bndF hi len = some h) (h0 : 0 ≤ l) (h1 : l ≤ h) (h2 : h ≤ len) (h3 : len ≤ cap)
    (rl : (lo = none ↔ lv = none) ∧ ∀ x v, lo = some x → lv = some v → RelV c x v) (rh : (hi = none ↔ hv = none) ∧ ∀ x v, hi = some x → hv = some v → RelV c x v) :
    (Instr.sliceBounds isS len cap lv hv none).run P c.w = .ok (l.toNat, h.toNat, cap) c.w := by
  have hib : ∀ (y : Nat) (k : IntKind) (n : Int) (code : BoundsCode), 0 ≤ n → n ≤ y → (Instr.sliceBound (.int k n) y code).run P c.w = .ok n.toNat c.w := by
    intro y k n code a b
    simp [Instr.sliceBound, asIntOf, a, b]
  have hvv : (hi = none ∧ hv = none ∧ h = len) ∨ ∃ k, hv = some (.int k h) := by
    cases hi with
    | none => left; exact ⟨rfl, rh.1.1 rfl, by simpa [bndF] using hh.symm⟩
    | some x =>
      right
      cases hq : hv with
      | none => rw [hq] at rh; exact absurd (rh.1.2 rfl) (by simp)
      | some v =>
        have := rh.2 x v rfl hq
        cases x <;> try (simp [bndF] at hh; done)
        rename_i a
        cases a <;> try (simp [bndF] at hh; done)
        rename_i k n
        simp only [bndF, Option.some.injEq] at hh
        subst hh
        simp only [RelV, Rep] at this
        exact ⟨k, by rw [this]⟩
  have hlv : (lo = none ∧ lv = none ∧ l = 0) ∨ ∃ k, lv = some (.int k l) := by
    cases lo with
    | none => left; exact ⟨rfl, rl.1.1 rfl, by simpa [bndF] using hl.symm⟩
    | some x =>
      right
      cases hq : lv with
      | none => rw [hq] at rl; exact absurd (rl.1.2 rfl) (by simp)
      | some v =>
        have := rl.2 x v rfl hq
        cases x <;> try (simp [bndF] at hl; done)
        rename_i a
        cases a <;> try (simp [bndF] at hl; done)
        rename_i k n
        simp only [bndF, Option.some.injEq] at hl
        subst hl
        simp only [RelV, Rep] at this
        exact ⟨k, by rw [this]⟩
  have hcap : h ≤ (cap : Int) := by omega
  rcases hvv with ⟨_, rfl, rfl⟩ | ⟨k, rfl⟩ <;> rcases hlv with ⟨_, rfl, rfl⟩ | ⟨k', rfl⟩
  · simp [Instr.sliceBounds]
  · simp [Instr.sliceBounds, hib len k' l _ h0 (by omega)]
  · simp [Instr.sliceBounds, hib cap k h _ (by omega) hcap]
  · simp [Instr.sliceBounds, hib cap k h _ (by omega) hcap, hib h.toNat k' l _ h0 (by omega)]
theorem step_sl {P : Program} {E : En} {c : Cx} (hi : Inv E c) {lk : Nat → Ob} (hlk : ∀ id, lk id = .free ∨ lk id = look c.hp id) {t : TypeId} {x : FV} {lo hi' mx : Option FV} {rs : Rs} {v : Value} {lv hv mv : Option Value} (h : slF P t x lo hi' mx lk = some rs) (hob : rs.ob) (r : RelV c x v)
    (rl : (lo = none ↔ lv = none) ∧ ∀ x v, lo = some x → lv = some v → RelV c x v) (rh : (hi' = none ↔ hv = none) ∧ ∀ x v, hi' = some x → hv = some v → RelV c x v) (rm : mx = none ↔ mv = none) :
    Step1 E c rs ((do pure (Next.value (← Instr.sliceAt t v lv hv mv)) : Sem Next).run P c.w) := by
  unfold slF at h
  split at h
  case h_1 => cases h
  obtain rfl := rm.1 rfl
  split at h
  · rename_i hu
    split at h
    case h_2 => cases h
    rename_i s
    split at h
    case h_2 => cases h
    rename_i l hh hl hhh
    simp only [Option.some.injEq] at h
    subst h
    obtain ⟨h0, h1, h2⟩ := hob
    simp only [RelV, Rep] at r
    subst r
    refine step_pure hi (v := .string (s.extract l.toNat hh.toNat)) ?_ (by simp only [RelV, Rep])
    have hb := bnd_run (P := P) (c := c) (isS := false) (cap := s.size) hl hhh h0 h1 h2 (Nat.le_refl _) rl rh
    simp [Instr.sliceAt, Instr.slice, run_underlying hu, hb]
  · rename_i e hu
    split at h
    case h_1 => cases h
    rename_i i hq
    split at h
    case h_3 => cases h
    · rename_i sz n f
      split at h
      case isFalse => cases h
      rename_i hsz
      split at h
      case h_2 => cases h
      rename_i l hh hl hhh
      simp only [Option.some.injEq] at h
      subst h
      obtain ⟨h0, h1, h2⟩ := hob
      simp only [RelV, Rep] at r
      obtain ⟨base, cap, rfl, hc, hz, hx⟩ := r
      have hb := bnd_run (P := P) (c := c) (isS := true) (cap := cap) hl hhh h0 h1 h2 hc rl rh
      refine step_pure hi (v := .slice (if cap = l.toNat then base else base.map (·.add (l.toNat * i.size))) (hh.toNat - l.toNat) (cap - l.toNat)) ?_ ?_
      · simp [Instr.sliceAt, Instr.slice, run_underlying hu, hb, run_size hq]
      · simp only [RelV, Rep]
        refine ⟨_, _, rfl, by omega, fun hn => ?_, ?_⟩
        · split at hn
          · omega
          · cases base with
            | none => rw [hz rfl]; omega
            | some a => simp at hn
        · by_cases hm : hh.toNat - l.toNat = 0
          · exact .inl hm
          · right
            obtain ⟨b, o, rfl, hF, hcell⟩ := hx.resolve_left (by omega)
            refine ⟨b, o + l.toNat * i.size, by rw [if_neg (by omega), Option.map_some, Addr.add_mid], hF, fun q hq j hj => ?_⟩
            obtain ⟨y, hy1, hy2⟩ := hcell (l.toNat + q) (by omega) j hj
            refine ⟨y, ?_, hy2⟩
            rw [Nat.add_mul] at hy1
            rw [← hsz, ← hy1]
            congr 2
            omega
    · rename_i id e' sz n
      split at h
      case h_2 => cases h
      rename_i own1 e1 sz1 n1 f1 hl0
      split at h
      case isFalse => cases h
      rename_i hsz
      split at h
      case h_2 => cases h
      rename_i l hh hl hhh
      simp only [Option.some.injEq] at h
      subst h
      obtain ⟨h0, h1, h2⟩ := hob
      have hobj : look c.hp id = .arr own1 e1 sz1 n1 f1 := by
        rcases hlk id with hf | hf
        · rw [hf] at hl0; cases hl0
        · rw [← hf]; exact hl0
      have ho := hi.objs id
      simp only [RelV] at r
      rw [hobj] at r ho
      obtain ⟨⟨base, cap, rfl, _⟩, rfl, rfl, rfl, hk⟩ := r
      obtain ⟨_, xs, hown, _⟩ := ho
      rw [← hk] at hown
      have hc : n1 ≤ cap := by
        rcases hown.2 with ⟨hv, hm⟩ | ⟨g', cap', cur, hv, _, _, hnc, _⟩
        · omega
        · simp only [Value.slice.injEq] at hv
          obtain ⟨_, _, rfl⟩ := hv
          exact hnc
      have hb := bnd_run (P := P) (c := c) (isS := true) (cap := cap) hl hhh h0 h1 h2 hc rl rh
      refine step_pure hi (v := .slice (if cap = l.toNat then base else base.map (·.add (l.toNat * i.size))) (hh.toNat - l.toNat) (cap - l.toNat)) ?_ ?_
      · simp [Instr.sliceAt, Instr.slice, run_underlying hu, hb, run_size hq]
      · simp only [RelV]
        refine ⟨⟨_, _, rfl⟩, ?_⟩
        rw [hobj]
        exact ⟨rfl, rfl, by omega, base, cap, hk.symm, by rw [hsz]⟩
  · cases h
def cpA (lo n : Nat) (f h : Nat → Nat → AV) : Nat → Nat → AV := fun a b => if lo ≤ a ∧ a < lo + n then h (a - lo) b else f a b
def dstC (x : FV) (lk : Nat → Ob) : Option (Nat × Nat × Nat × Nat × Nat × Nat × (Nat → Nat → AV)) :=
  match x with
  | .sref id _ _ _ => match lk id with
    | .arr true e sz n f => some (id, e, sz, 0, n, n, f)
    | _ => none
  | .ssub id _ _ lo k => match lk id with
    | .arr true e sz n f => some (id, e, sz, lo, k, n, f)
    | _ => none
  | _ => none
theorem dstC_ok {c : Cx} {lk : Nat → Ob} (hlk : ∀ id, lk id = .free ∨ lk id = look c.hp id) {x : FV} {v : Value} {id e sz lo k n : Nat} {f : Nat → Nat → AV} (hs : dstC x lk = some (id, e, sz, lo, k, n, f)) (r : RelV c x v) :
    look c.hp id = .arr true e sz n f ∧ lo + k ≤ n ∧ ∃ b cap0, c.κ id = .slice b n cap0 ∧ ∃ base, v = .slice base k (cap0 - lo) ∧ (base = if cap0 = lo then b else b.map (·.add (lo * sz))) := by
  cases x <;> try (simp [dstC] at hs; done)
  · rename_i id0 e0 sz0 n0
    simp only [dstC] at hs
    split at hs
    case h_2 => cases hs
    rename_i e1 sz1 n1 f1 hl
    simp only [Option.some.injEq, Prod.mk.injEq] at hs
    obtain ⟨rfl, rfl, rfl, rfl, rfl, rfl, rfl⟩ := hs
    have hob : look c.hp id0 = .arr true e1 sz1 n1 f1 := by
      rcases hlk id0 with hf | hf
      · rw [hf] at hl; cases hl
      · rw [← hf]; exact hl
    simp only [RelV] at r
    rw [hob] at r
    obtain ⟨⟨base, cap, hv, _⟩, rfl, rfl, rfl, hk⟩ := r
    refine ⟨hob, by omega, base, cap, by rw [← hk, hv], base, by rw [hv, Nat.sub_zero], ?_⟩
    split
    · rfl
    · cases base <;> simp [Addr.add]
  · rename_i id0 e0 sz0 lo0 n0
    simp only [dstC] at hs
    split at hs
    case h_2 => cases hs
    rename_i e1 sz1 n1 f1 hl
    simp only [Option.some.injEq, Prod.mk.injEq] at hs
    obtain ⟨rfl, rfl, rfl, rfl, rfl, rfl, rfl⟩ := hs
    have hob : look c.hp id0 = .arr true e1 sz1 n1 f1 := by
      rcases hlk id0 with hf | hf
      · rw [hf] at hl; cases hl
      · rw [← hf]; exact hl
    simp only [RelV] at r
    rw [hob] at r
    obtain ⟨_, rfl, rfl, hle, b, cap0, hk, hv⟩ := r
    exact ⟨hob, hle, b, cap0, hk, _, hv, rfl⟩
def copyF (P : Program) (t : TypeId) (d s : FV) (lk : Nat → Ob) : Option Rs :=
  match P.underlying t with
  | some (.slice e) => match P.info? e with
    | some i => match srcA s lk with
      | some (sz2, m, h) => match dstC d lk with
        | some (id, e', sz, lo, k, n, f) => if sz = i.size ∧ (sz2 = i.size ∨ m = 0) then
            some ⟨.p (.int .i64 (Nat.min m k : Nat)), [(id, .arr true e' sz n (cpA lo (Nat.min m k) f h))], none⟩
          else none
        | none => none
      | none => none
    | none => none
  | _ => none
theorem run_copy_zero {P : Program} {w : World} {t u ty e : TypeId} {i : TypeInfo} (ht : P.underlying t = some (.slice e)) (hq : P.info? e = some i) (base base' : Option Addr) (k cap m cap' : Nat) (hz : Nat.min m k = 0) :
    (Builtin.copy_ #[t, u] ty #[.slice base k cap, .slice base' m cap']).run P w = .ok (goInt 0) w := by
  have hf : ∀ o : Option Addr, (Builtin.firstCells i.size 0 (.slice o m cap')).run P w = .ok #[] w := by
    intro o
    cases o with
    | none => simp [Builtin.firstCells]
    | some a => simp [Builtin.firstCells, loadCells, loadCellsFrom]
  cases base <;> simp [Builtin.copy_, run_underlying ht, Builtin.lenOf, hz, run_size hq, hf, storeCells]
theorem run_copy_some {P : Program} {w : World} {t u ty e : TypeId} {i : TypeInfo} (ht : P.underlying t = some (.slice e)) (hq : P.info? e = some i) (g o k cap m cap' : Nat) (a : Addr) (cs : List Value) (cur : Array Value) (el : TypeId) (hg : w.heap[g]? = some (.cells cur el (0, 0)))
    (hl : cs.length = Nat.min m k * i.size) (hc : ∀ j v, cs[j]? = some v → w.cell? (a.add j) = some v) (h1 : ∀ v ∈ cs, v.oneCell' = true) (hfit : o + cs.length ≤ cur.size) :
    (Builtin.copy_ #[t, u] ty #[.slice (some ⟨g, o, none⟩) k cap, .slice (some a) m cap']).run P w = .ok (goInt (Nat.min m k : Nat)) (w.setRow g (lay cur.toList o cs).toArray) := by
  have hst := run_storeCells_at P g o el cs 0 cur w hg (by simpa using hfit) h1
  simp only [Nat.add_zero] at hst
  have hf := run_firstCells_some (P := P) w i.size (Nat.min m k) a m cap' cs hl hc
  simp [Builtin.copy_, run_underlying ht, Builtin.lenOf, run_size hq, hf, hst, lay]
theorem step_copy {P : Program} {E : En} {c : Cx} (hi : Inv E c) {lk : Nat → Ob} (hlk : ∀ id, lk id = .free ∨ lk id = look c.hp id) {t u ty : TypeId} {d s : FV} {rs : Rs} {v x : Value}
    (h : copyF P t d s lk = some rs) (r : RelV c d v) (rx : RelV c s x) :
    Step1 E c rs ((do pure (Next.value (← Builtin.copy_ #[t, u] ty #[v, x])) : Sem Next).run P c.w) := by
  unfold copyF at h
  split at h
  case h_2 => cases h
  rename_i e ht
  split at h
  case h_2 => cases h
  rename_i i hq
  split at h
  case h_2 => cases h
  rename_i sz2 m hh hsrc
  split at h
  case h_2 => cases h
  rename_i id e' sz lo k n f hdst
  split at h
  case isFalse => cases h
  rename_i hcond
  obtain ⟨rfl, hszm⟩ := hcond
  simp only [Option.some.injEq] at h
  subst h
  obtain ⟨base', cap', rfl, hnews⟩ := srcA_ok hi hlk hsrc rx
  obtain ⟨hob, hle, b, cap0, hk, base, rfl, hbase⟩ := dstC_ok hlk hdst r
  have ho := hi.objs id
  rw [hob] at ho
  obtain ⟨h0, xs, hown, hx, hone, hF⟩ := ho
  by_cases hz : Nat.min m k = 0
  · have hrun := run_copy_zero (P := P) (w := c.w) (u := u) (ty := ty) ht hq base base' k (cap0 - lo) m cap' hz
    obtain ⟨i1, l1⟩ := hi.put (w' := c.w) (id := id) (o := .arr true e' i.size n (cpA lo (Nat.min m k) f hh)) (by rw [hob]; rfl) (Chg.refl _ _) (by rw [hob]; exact .inr ⟨rfl, _, _, rfl⟩)
      (fun hle => ⟨h0, xs, hown, fun a ha j hj => by
        obtain ⟨y, h1, h2⟩ := hx a ha j hj
        refine ⟨y, h1, ?_⟩
        unfold cpA
        rw [if_neg (by omega)]
        exact Rep.mono hle.F hle.w _ _ h2, hone, hF⟩)
    refine ⟨_, _, ⟨c.F, c.w, c.κ, _⟩, by rw [Sem.run_bind, hrun]; rfl, .inl rfl, i1, l1, rfl, ?_⟩
    simp only [RelV, Rep]
    rw [hz]; rfl
  · have hmin : Nat.min m k ≤ m ∧ Nat.min m k ≤ k := ⟨Nat.min_le_left _ _, Nat.min_le_right _ _⟩
    have hm0 : 0 < m := by omega
    have hk0 : 0 < k := by omega
    rcases hnews with ⟨_, rfl, _⟩ | ⟨a, news, rfl, h2, h3, h4, h5⟩
    · omega
    obtain rfl : sz2 = i.size := hszm.resolve_right (by omega)
    rw [hk] at hown hF
    rcases hown.2 with ⟨hv, hn0⟩ | ⟨g, cap, cur, hv, hbz, hg, hnc, hcm, hcs, htk⟩
    · omega
    simp only [Value.slice.injEq] at hv
    obtain ⟨rfl, _, rfl⟩ := hv
    rw [if_neg (by omega), Option.map_some, Addr.add_mid, Nat.zero_add] at hbase
    subst hbase
    have hxl := hown.1
    have hcl : cur.toList.length = cap0 * i.size := by simpa using hcs
    have hnl : n * i.size ≤ cap0 * i.size := Nat.mul_le_mul_right _ hnc
    have hlk2 : lo * i.size + Nat.min m k * i.size ≤ n * i.size := by rw [← Nat.add_mul]; exact Nat.mul_le_mul_right _ (by omega)
    have hml : Nat.min m k * i.size ≤ m * i.size := Nat.mul_le_mul_right _ hmin.1
    obtain ⟨cs, hcs'⟩ : ∃ cs, cs = news.take (Nat.min m k * i.size) := ⟨_, rfl⟩
    have hcsl : cs.length = Nat.min m k * i.size := by rw [hcs', List.length_take]; omega
    have hcsg : ∀ j, j < Nat.min m k * i.size → cs[j]? = news[j]? := fun j hj => by rw [hcs', List.getElem?_take, if_pos hj]
    have hrun := run_copy_some (P := P) (w := c.w) (u := u) (ty := ty) ht hq g (lo * i.size) k (cap0 - lo) m cap' a cs cur e' hg hcsl (fun j v hv => by
      have hj : j < Nat.min m k * i.size := by
        have := (List.getElem?_eq_some_iff.1 hv).1
        omega
      exact h3 j v (by rw [← hcsg j hj]; exact hv)) (fun v hv => h4 v (List.mem_of_mem_take (by rw [← hcs']; exact hv))) (by have : cur.size = cap0 * i.size := hcs; omega)
    have hblk : blk (c.κ id) = some g := by rw [hk]; rfl
    obtain ⟨i1, l1⟩ := hi.put (w' := c.w.setRow g (lay cur.toList (lo * i.size) cs).toArray) (id := id) (o := .arr true e' i.size n (cpA lo (Nat.min m k) f hh)) (by rw [hob]; rfl) (chg_setRow c.w g _ hblk) (by rw [hob]; exact .inr ⟨rfl, _, _, rfl⟩)
      (fun hle' => ⟨h0, lay xs (lo * i.size) cs, ⟨by rw [length_lay (by omega), hxl], .inr ⟨g, cap0, _, hk, Nat.zero_le _, setRow_heap c.w g cur _ e' (0, 0) hg, hnc, hcm, by
          rw [List.size_toArray, length_lay (by omega), Array.length_toList, hcs], by
          apply List.ext_getElem?
          intro z
          have g1 := get_lay (L := cur.toList) (k := lo * i.size) (vs := cs) (by omega) z
          have g2 := get_lay (L := xs) (k := lo * i.size) (vs := cs) (by omega) z
          have hx2 : xs[z]? = if z < n * i.size then cur.toList[z]? else none := by rw [← htk, List.getElem?_take]
          rw [List.getElem?_take, List.toList_toArray, g1, g2, hx2]
          by_cases hz2 : z < n * i.size
          · simp only [if_pos hz2]
          · rw [if_neg hz2, if_neg hz2, if_neg (by omega), if_neg (by omega)]⟩⟩,
        fun q hq' j hj => by
          rw [get_lay (by omega)]
          unfold cpA
          have hbig : ∀ a' b' : Nat, a' < b' → a' * i.size + i.size ≤ b' * i.size := fun a' b' hab => by
            have := Nat.mul_le_mul_right i.size (show a' + 1 ≤ b' from hab)
            rw [Nat.add_mul, Nat.one_mul] at this
            exact this
          by_cases hin : lo ≤ q ∧ q < lo + Nat.min m k
          · rw [if_pos hin]
            have e1 : (q - lo) * i.size = q * i.size - lo * i.size := Nat.sub_mul _ _ _
            have e2 : lo * i.size ≤ q * i.size := Nat.mul_le_mul_right _ hin.1
            have e3 := mul_lt (show q - lo < Nat.min m k by omega) hj
            rw [if_neg (by omega), if_pos (by omega)]
            obtain ⟨y, hy1, hy2⟩ := h5 (q - lo) (by omega) j hj
            refine ⟨y, ?_, Rep.mono hle'.F hle'.w _ _ hy2⟩
            rw [show q * i.size + j - lo * i.size = (q - lo) * i.size + j from by omega, hcsg _ e3, hy1]
          · rw [if_neg hin]
            obtain ⟨y, hy1, hy2⟩ := hx q hq' j hj
            refine ⟨y, ?_, Rep.mono hle'.F hle'.w _ _ hy2⟩
            by_cases hlq : q < lo
            · have := hbig q lo hlq
              rw [if_pos (by omega)]; exact hy1
            · have : (lo + Nat.min m k) * i.size ≤ q * i.size := Nat.mul_le_mul_right _ (by omega)
              rw [Nat.add_mul] at this
              rw [if_neg (by omega), if_neg (by omega)]; exact hy1,
        fun z hz2 => by
          simp only [lay, List.append_assoc, List.mem_append] at hz2
          rcases hz2 with h | h | h
          · exact hone z (List.mem_of_mem_take h)
          · exact h4 z (List.mem_of_mem_take (by rw [← hcs']; exact h))
          · exact hone z (List.mem_of_mem_drop h),
        fun b2 hb2 => hF b2 (by rw [hk] at hb2; exact hb2)⟩)
    refine ⟨_, _, ⟨c.F, _, c.κ, _⟩, by rw [Sem.run_bind, hrun]; rfl, .inl rfl, i1, l1, rfl, ?_⟩
    simp only [RelV, Rep]
    rfl
def mmF (isMax : Bool) (x y : FV) : Option Rs :=
  match x, y with
  | .p (.int k a), .p (.int k' b) => if k = k' then some ⟨.p (.int k (if isMax then (if b > a then b else a) else (if b < a then b else a))), [], none⟩ else none
  | _, _ => none
end Go.Proofs.YtjhnpaenhdbhpacV
set_option linter.unusedVariables false
set_option linter.unusedSimpArgs false
set_option linter.constructorNameAsVariable false
namespace Go.Proofs.YtjhnpaenhdbhpacV
open Go Go.RowKit
mutual
def FV.ren (ρ : Nat → Nat) : FV → FV
  | .u => .u
  | .und => .und
  | .nil => .nil
  | .p a => .p a
  | .agg cs => .agg (rens ρ cs)
  | .sref id e sz n => .sref (ρ id) e sz n
  | .ssub id e sz lo n => .ssub (ρ id) e sz lo n
  | .ptr id i j => .ptr (ρ id) i j
  | .vptr m f => .vptr m f
  | .fn f cs => .fn f (rens ρ cs)
  | .tup us => .tup (rens ρ us)
  | .mref id m => .mref (ρ id) (ρ m)
def rens (ρ : Nat → Nat) : List FV → List FV
  | [] => []
  | x :: xs => x.ren ρ :: rens ρ xs
end
def Rg.ren (ρ : Nat → Nat) : Rg → Rg
  | .map es => .map es
  | .iter m n seen cur => .iter (ρ m) n seen cur
  | .gone => .gone
def Ob.ren (ρ : Nat → Nat) : Ob → Ob
  | .box cs => .box (rens ρ cs)
  | .reg g => .reg (g.ren ρ)
  | o => o
structure Rn (ρ : Nat → Nat) (c c' : Cx) : Prop where
  F : ∀ b, c.F b → c'.F b
  w : ∀ b, c.F b → c'.w.heap[b]? = c.w.heap[b]?
  o : ∀ id, look c.hp id ≠ .free → look c'.hp (ρ id) = (look c.hp id).ren ρ ∧ c'.κ (ρ id) = c.κ id
mutual
theorem RelV.ren {ρ : Nat → Nat} {c c' : Cx} (h : Rn ρ c c') : ∀ (x : FV) (v : Value), RelV c x v → RelV c' (x.ren ρ) v
  | .u, v, _ => by simp [FV.ren, RelV]
  | .und, v, r => by simpa [FV.ren, RelV] using r
  | .nil, v, r => by simpa [FV.ren, RelV] using r
  | .p a, v, r => by
    simp only [FV.ren, RelV] at r ⊢
    exact Rep.mono h.F h.w a v r
  | .agg cs, v, r => by
    simp only [FV.ren, RelV] at r ⊢
    obtain ⟨vs, hv, hr⟩ := r
    exact ⟨vs, hv, RelVs.ren h cs _ hr⟩
  | .sref id e sz n, v, r => by
    simp only [FV.ren, RelV] at r ⊢
    refine ⟨r.1, ?_⟩
    have hr := r.2
    have hne : look c.hp id ≠ .free := fun e => by rw [e] at hr; exact hr
    obtain ⟨h1, h2⟩ := h.o id hne
    rw [h1, h2]
    cases ho : look c.hp id <;> rw [ho] at hr <;> first | exact hr | trivial
  | .ssub id e sz lo n, v, r => by
    simp only [FV.ren, RelV] at r ⊢
    refine ⟨r.1, ?_⟩
    have hr := r.2
    have hne : look c.hp id ≠ .free := fun e => by rw [e] at hr; exact hr
    obtain ⟨h1, h2⟩ := h.o id hne
    rw [h1, h2]
    cases ho : look c.hp id <;> rw [ho] at hr <;> first | exact hr | trivial
  | .ptr id i j, v, r => by
    simp only [FV.ren, RelV] at r ⊢
    obtain ⟨a, hv, hr⟩ := r
    refine ⟨a, hv, ?_⟩
    have hne : look c.hp id ≠ .free := fun e => by rw [e] at hr; exact hr
    obtain ⟨h1, h2⟩ := h.o id hne
    rw [h1, h2]
    cases ho : look c.hp id <;> rw [ho] at hr <;> first | exact hr | trivial
  | .vptr m f, v, r => by
    simp only [FV.ren, RelV] at r ⊢
    obtain ⟨b, o, hv, hb, hr⟩ := r
    refine ⟨b, o, hv, hb.imp id (h.F b), fun j hj => ?_⟩
    obtain ⟨x, h1, h2⟩ := hr j hj
    have hfb := hb.resolve_left (by omega)
    exact ⟨x, by rw [cell_of_heap (h.w b hfb)]; exact h1, Rep.mono h.F h.w _ _ h2⟩
  | .fn f caps, v, r => by
    simp only [FV.ren, RelV] at r ⊢
    obtain ⟨vs, hv, hr⟩ := r
    exact ⟨vs, hv, RelVs.ren h caps _ hr⟩
  | .tup us, v, r => by
    simp only [FV.ren, RelV] at r ⊢
    obtain ⟨vs, hv, hr⟩ := r
    exact ⟨vs, hv, RelVs.ren h us _ hr⟩
  | .mref id mm, v, r => by
    simp only [FV.ren, RelV] at r ⊢
    refine ⟨r.1, ?_⟩
    have hr := r.2
    have hne : look c.hp id ≠ .free := fun e => by rw [e] at hr; exact hr
    obtain ⟨h1, h2⟩ := h.o id hne
    rw [h1, h2]
    cases ho : look c.hp id <;> rw [ho] at hr <;> first | exact hr | trivial
theorem RelVs.ren {ρ : Nat → Nat} {c c' : Cx} (h : Rn ρ c c') : ∀ (xs : List FV) (vs : List Value), RelVs c xs vs → RelVs c' (rens ρ xs) vs
  | [], vs, r => by simpa [rens, RelVs] using r
  | x :: xs, vs, r => by
    simp only [rens, RelVs] at r ⊢
    obtain ⟨v, vs', hv, h1, h2⟩ := r
    exact ⟨v, vs', hv, RelV.ren h x v h1, RelVs.ren h xs vs' h2⟩
end
theorem PV.fv_ren (ρ : Nat → Nat) (x : PV) : x.fv.ren ρ = x.fv := by
  cases x with
  | one a => simp [PV.fv, FV.ren]
  | many l =>
    have : ∀ l : List AV, rens ρ (l.map .p) = l.map .p := by
      intro l
      induction l with
      | nil => rfl
      | cons a l ih => simp [rens, FV.ren, ih]
    simp [PV.fv, FV.ren, this]
theorem rens_pv (ρ : Nat → Nat) : ∀ l : List PV, rens ρ (l.map PV.fv) = l.map PV.fv
  | [] => rfl
  | x :: l => by simp [rens, PV.fv_ren, rens_pv ρ l]
theorem RelG.ren {ρ : Nat → Nat} {c c' : Cx} (h : Rn ρ c c') (hw : c'.w = c.w) {v : Value} {b : Nat} {g : Rg} (r : RelG c v b g) : RelG c' v b (g.ren ρ) := by
  cases g with
  | map es =>
    obtain ⟨h1, ents, h2, h3, h4, h5⟩ := r
    refine ⟨h1, ents, by rw [hw]; exact h2, ?_, ?_, h5⟩
    · have := RelVs.ren h _ _ h3
      rw [show es.map (fun x => x.1.fv) = (es.map (·.1)).map PV.fv by simp [Function.comp_def], rens_pv] at this
      simpa [Function.comp_def] using this
    · have := RelVs.ren h _ _ h4
      rw [show es.map (fun x => x.2.fv) = (es.map (·.2)).map PV.fv by simp [Function.comp_def], rens_pv] at this
      simpa [Function.comp_def] using this
  | iter m n seen cur =>
    obtain ⟨h1, bm, h2, h3, h4⟩ := r
    exact ⟨h1, bm, RelV.ren h _ _ h2, by rw [hw]; exact h3, h4⟩
  | gone => trivial
theorem RelO.ren {ρ : Nat → Nat} {c c' : Cx} (h : Rn ρ c c') (hw : c'.w = c.w) (hF : c'.F = c.F) {v : Value} {o : Ob} (r : RelO c v o) : RelO c' v (o.ren ρ) := by
  cases o with
  | free => trivial
  | dead => trivial
  | arr own e sz n f =>
    obtain ⟨h0, xs, h1, h2, h3, h4⟩ := r
    exact ⟨h0, xs, by rw [hw]; exact h1, fun i hi j hj => by rw [hw, hF]; exact h2 i hi j hj, h3, fun b hb => by rw [hF]; exact h4 b hb⟩
  | box cs =>
    obtain ⟨b, C, t, h1, h2, h3, h4, h5⟩ := r
    exact ⟨b, C, t, h1, by rw [hw]; exact h2, by rw [hF]; exact h3, h4, RelVs.ren h _ _ h5⟩
  | reg g =>
    obtain ⟨b, hb, hl, hf, hg⟩ := r
    exact ⟨b, hb, by rw [hw]; exact hl, by rw [hF]; exact hf, RelG.ren h hw hg⟩
theorem mut_ren (ρ : Nat → Nat) (o : Ob) : (o.ren ρ).mut = o.mut := by cases o <;> rfl
def Spec (P : Program) (f : FuncId) (args : List FV) (res : FV) (H : List Ob) : Prop :=
  ∀ (w : World) (F : Nat → Prop) (κ : Nat → Value) (vs : Array Value), (∀ b, F b → b < w.heap.size) → RelVs ⟨F, w, κ, []⟩ args vs.toList →
    Calls P f vs w fun e w' => ∃ v F' κ', e = .returned v ∧ Inv ⟨w, F, fun _ => False, fun _ _ => False⟩ ⟨F', w', κ', H⟩ ∧ RelV ⟨F', w', κ', H⟩ res v
def FVsLe (xs ys : List FV) : Prop := ∀ c vs, RelVs c xs vs → RelVs c ys vs
theorem FVsLe.refl (xs : List FV) : FVsLe xs xs := fun _ _ h => h
def toArg (lk : Nat → Ob) : FV → Option FV
  | .p a => some (.p a)
  | .nil => some .nil
  | .vptr m f => some (.vptr m f)
  | .fn f [] => some (.fn f [])
  | .sref id e sz n => match toAV lk (.sref id e sz n) with
    | some a => some (.p a)
    | none => none
  | .ssub id e sz lo n => match toAV lk (.ssub id e sz lo n) with
    | some a => some (.p a)
    | none => none
  | .agg cs => match toAVs lk cs with
    | some ays => some (.agg (ays.map .p))
    | none => none
  | _ => none
def frzArg (lk : Nat → Ob) : FV → List (Nat × Ob)
  | .agg cs => frzs lk cs
  | .sref id e sz n => frz lk (.sref id e sz n)
  | .ssub id e sz lo n => frz lk (.ssub id e sz lo n)
  | _ => []
def toArgs (lk : Nat → Ob) : List FV → Option (List FV)
  | [] => some []
  | x :: xs => match toArg lk x with
    | some y => match toArgs lk xs with
      | some ys => some (y :: ys)
      | none => none
    | none => none
def frzArgs (lk : Nat → Ob) : List FV → List (Nat × Ob)
  | [] => []
  | x :: xs => frzArg lk x ++ frzArgs lk xs
theorem relVs_p {F : Nat → Prop} {w : World} {κ : Nat → Value} {hp : List Ob} {ays : List AV} {vs : List Value} (hl : ays.length = vs.length) (h : ∀ (i : Nat) (a : AV) (v : Value), ays[i]? = some a → vs[i]? = some v → Rep F w a v) : RelVs ⟨F, w, κ, hp⟩ (ays.map .p) vs := by
  refine RelVs.of_get (by simp [hl]) fun i v hv hi => ?_
  simp only [List.getElem_map, RelV]
  have hi' : i < ays.length := by simpa using hi
  exact h i _ v (List.getElem?_eq_getElem hi') hv
theorem toArgs_ok {E : En} (lk : Nat → Ob) : ∀ (xs ys : List FV) (c : Cx) (vs : List Value), Inv E c → (∀ id, lk id = .free ∨ look c.hp id = lk id ∨ look c.hp id = (lk id).froze) → toArgs lk xs = some ys → RelVs c xs vs →
    ∃ F', Inv E ⟨F', c.w, c.κ, setUps c.hp (frzArgs lk xs)⟩ ∧ Le c ⟨F', c.w, c.κ, setUps c.hp (frzArgs lk xs)⟩ ∧ RelVs ⟨F', c.w, c.κ, []⟩ ys vs := by
  intro xs
  induction xs with
  | nil =>
    intro ys c vs hi hlk ha hr
    simp only [toArgs, Option.some.injEq] at ha
    simp only [RelVs] at hr
    subst ha hr
    exact ⟨c.F, hi, Le.refl c, by simp [RelVs]⟩
  | cons x xs ih =>
    intro ys c vs hi hlk ha hr
    simp only [toArgs] at ha
    cases hx : toArg lk x with
    | none => simp [hx] at ha
    | some y =>
      cases hxs : toArgs lk xs with
      | none => simp [hx, hxs] at ha
      | some ys' =>
        simp only [hx, hxs, Option.some.injEq] at ha
        subst ha
        simp only [RelVs] at hr
        obtain ⟨v, vs', rfl, hv, hvs⟩ := hr
        have one : ∃ F', Inv E ⟨F', c.w, c.κ, setUps c.hp (frzArg lk x)⟩ ∧ Le c ⟨F', c.w, c.κ, setUps c.hp (frzArg lk x)⟩ ∧ (∀ id, lk id = .free ∨ look (setUps c.hp (frzArg lk x)) id = lk id ∨ look (setUps c.hp (frzArg lk x)) id = (lk id).froze) ∧ RelV ⟨F', c.w, c.κ, []⟩ y v := by
          cases x with
          | p a' =>
            simp only [toArg, Option.some.injEq] at hx
            subst hx
            exact ⟨c.F, hi, Le.refl c, hlk, by simpa [RelV] using hv⟩
          | nil =>
            simp only [toArg, Option.some.injEq] at hx
            subst hx
            exact ⟨c.F, hi, Le.refl c, hlk, by simpa [RelV] using hv⟩
          | vptr m f =>
            simp only [toArg, Option.some.injEq] at hx
            subst hx
            exact ⟨c.F, hi, Le.refl c, hlk, by simpa [RelV] using hv⟩
          | fn f cs =>
            cases cs with
            | cons z zs => simp [toArg] at hx
            | nil =>
              simp only [toArg, Option.some.injEq] at hx
              subst hx
              exact ⟨c.F, hi, Le.refl c, hlk, by simpa [RelV, RelVs] using hv⟩
          | sref id e sz n =>
            cases hq : toAV lk (.sref id e sz n) with
            | none => simp [toArg, hq] at hx
            | some a =>
              simp only [toArg, hq, Option.some.injEq] at hx
              subst hx
              obtain ⟨F', h1, h2, h3, h4, h5⟩ := frzs_ok (E := E) lk [.sref id e sz n] [a] c [v] hi hlk (by simp [toAVs, hq]) (by simp only [RelVs]; exact ⟨v, [], rfl, hv, rfl⟩)
              simp only [frzs, List.append_nil] at h1 h2 h3
              exact ⟨F', h1, h2, h3, by simp only [RelV]; exact h5 0 a v rfl rfl⟩
          | agg cs =>
            cases hq : toAVs lk cs with
            | none => simp [toArg, hq] at hx
            | some ays =>
              simp only [toArg, hq, Option.some.injEq] at hx
              subst hx
              simp only [RelV] at hv
              obtain ⟨us, rfl, hr⟩ := hv
              obtain ⟨F', h1, h2, h3, h4, h5⟩ := frzs_ok (E := E) lk cs ays c us.toList hi hlk hq hr
              exact ⟨F', h1, h2, h3, by simp only [RelV]; exact ⟨us, rfl, relVs_p h4 h5⟩⟩
          | u => simp [toArg] at hx
          | und => simp [toArg] at hx
          | ptr id i j => simp [toArg] at hx
          | ssub id e sz lo n =>
            cases hq : toAV lk (.ssub id e sz lo n) with
            | none => simp [toArg, hq] at hx
            | some a =>
              simp only [toArg, hq, Option.some.injEq] at hx
              subst hx
              obtain ⟨F', h1, h2, h3, h4, h5⟩ := frzs_ok (E := E) lk [.ssub id e sz lo n] [a] c [v] hi hlk (by simp [toAVs, hq]) (by simp only [RelVs]; exact ⟨v, [], rfl, hv, rfl⟩)
              simp only [frzs, List.append_nil] at h1 h2 h3
              exact ⟨F', h1, h2, h3, by simp only [RelV]; exact h5 0 a v rfl rfl⟩
          | tup us => simp [toArg] at hx
          | mref id mm => simp [toArg] at hx
        obtain ⟨F1, i1, l1, k1, r1⟩ := one
        obtain ⟨F2, i2, l2, r2⟩ := ih ys' ⟨F1, c.w, c.κ, setUps c.hp (frzArg lk x)⟩ vs' i1 k1 hxs (RelVs.keep l1 _ _ hvs)
        have hsplit : setUps c.hp (frzArgs lk (x :: xs)) = setUps (setUps c.hp (frzArg lk x)) (frzArgs lk xs) := by simp [setUps, frzArgs, List.foldl_append]
        rw [hsplit]
        refine ⟨F2, i2, Le.trans l1 l2, ?_⟩
        simp only [RelVs]
        exact ⟨v, vs', rfl, RelV.keep (c := ⟨F1, c.w, c.κ, []⟩) (c' := ⟨F2, c.w, c.κ, []⟩) ⟨l2.F, l2.w, fun id => OLe.refl _ _⟩ _ _ r1, r2⟩
def sc1 : FV → Bool
  | .p (.int _ _) | .p (.bool _) | .p (.str _) => true
  | _ => false
def scal : FV → Bool
  | .tup us => us.all sc1
  | x => sc1 x
theorem sc1_ok {c c' : Cx} {x : FV} {v : Value} (h : sc1 x = true) (r : RelV c x v) : RelV c' x v := by
  cases x <;> try (simp [sc1] at h; done)
  rename_i a
  cases a <;> first | (simp [sc1] at h; done) | (simp only [RelV, Rep] at r ⊢; exact r)
theorem sc1s_ok {c c' : Cx} : ∀ (us : List FV) (vs : List Value), us.all sc1 = true → RelVs c us vs → RelVs c' us vs
  | [], vs, _, r => by simpa [RelVs] using r
  | u :: us, vs, h, r => by
    simp only [List.all_cons, Bool.and_eq_true] at h
    simp only [RelVs] at r ⊢
    obtain ⟨v, vs', hv, h1, h2⟩ := r
    exact ⟨v, vs', hv, sc1_ok h.1 h1, sc1s_ok us vs' h.2 h2⟩
theorem scal_ok {c c' : Cx} {x : FV} {v : Value} (h : scal x = true) (r : RelV c x v) : RelV c' x v := by
  by_cases hx : ∃ us, x = .tup us
  · obtain ⟨us, rfl⟩ := hx
    simp only [RelV] at r ⊢
    obtain ⟨vs, hv, hr⟩ := r
    exact ⟨vs, hv, sc1s_ok us _ (by simpa [scal] using h) hr⟩
  · have : sc1 x = true := by cases x <;> first | exact h | exact absurd ⟨_, rfl⟩ hx
    exact sc1_ok this r
def news (ρ : Nat → Nat) (g : Nat) : List Ob → Nat → List (Nat × Ob)
  | [], _ => []
  | o :: os, j => (g + j, o.ren ρ) :: news ρ g os (j + 1)
theorem setUps_length (ups : List (Nat × Ob)) : ∀ hp : List Ob, (setUps hp ups).length = hp.length := by
  induction ups with
  | nil => intro hp; rfl
  | cons u us ih => intro hp; show (setUps (hp.set u.1 u.2) us).length = _; rw [ih]; simp
theorem look_news (ρ : Nat → Nat) (g : Nat) : ∀ (H : List Ob) (j : Nat) (hp : List Ob) (id : Nat), g + j + H.length ≤ hp.length →
    look (setUps hp (news ρ g H j)) id = if g + j ≤ id ∧ id < g + j + H.length then (look H (id - (g + j))).ren ρ else look hp id
  | [], j, hp, id, _ => by
    rw [if_neg (by simp only [List.length_nil]; omega)]; rfl
  | o :: os, j, hp, id, hl => by
    simp only [List.length_cons] at hl
    have h := look_news ρ g os (j + 1) (hp.set (g + j) (o.ren ρ)) id (by rw [List.length_set]; omega)
    show look (setUps (hp.set (g + j) (o.ren ρ)) (news ρ g os (j + 1))) id = _
    rw [h]
    by_cases e : id = g + j
    · subst e
      rw [if_neg (by omega), look_set_same _ (by omega), if_pos (by simp)]
      simp [look]
    · rw [look_set_ne _ (Ne.symm e)]
      by_cases h1 : g + (j + 1) ≤ id ∧ id < g + (j + 1) + os.length
      · rw [if_pos h1, if_pos (by simp; omega)]
        rw [show id - (g + j) = (id - (g + (j + 1))) + 1 from by omega]
        simp [look]
      · rw [if_neg h1, if_neg (by simp; omega)]
def callOb (P : Program) (f : FuncId) (xs : List FV) (oas : Option (List FV)) (res : FV) (H : List Ob) : Prop :=
  match oas with
  | none => Spec P f xs res H
  | some ays => FVsLe xs ays ∧ Spec P f ays res H
theorem callOb_ok {P : Program} {f : FuncId} {xs : List FV} {oas : Option (List FV)} {res : FV} {H : List Ob} (h : callOb P f xs oas res H) : Spec P f xs res H := by
  cases oas with
  | none => exact h
  | some ays => exact fun w F κ vs hF hv => h.2 w F κ vs hF (h.1 _ _ hv)
def callB (P : Program) (f : FuncId) (args : List FV) (lk : Nat → Ob) (g : Nat) (oas : Option (List FV)) (res : FV) (H : List Ob) : Option Rs :=
  match P.funcs[f]? with
  | none => none
  | some fn => if fn.body.isSome = true ∧ (fn.name == "runtime.NumGoroutine") = false then
      match toArgs lk args with
      | none => none
      | some xs => if scal res = true ∧ H.isEmpty = true then some ⟨res, [], some (callOb P f xs oas res [])⟩
        else if H.length ≤ 4 ∧ (frzArgs lk args).all (fun p => decide (p.1 < g)) = true then
          some ⟨res.ren (fun q => g + q), frzArgs lk args ++ news (fun q => g + q) g H 0, some (callOb P f xs oas res H)⟩
        else none
    else none
def callF (P : Program) (f : FuncId) (args : List FV) (lk : Nat → Ob) (g : Nat) (h : Hn) : Option Rs :=
  match h with
  | .call res H => callB P f args lk g none res H
  | .callL ays res H => callB P f args lk g (some ays) res H
  | _ => none
theorem look_setUps_ge {g id : Nat} (hid : g ≤ id) : ∀ (ups : List (Nat × Ob)) (hp : List Ob), ups.all (fun p => decide (p.1 < g)) = true → look (setUps hp ups) id = look hp id
  | [], hp, _ => rfl
  | u :: us, hp, h => by
    simp only [List.all_cons, Bool.and_eq_true, decide_eq_true_eq] at h
    show look (setUps (hp.set u.1 u.2) us) id = _
    rw [look_setUps_ge hid us _ h.2, look_set_ne _ (by omega)]
theorem after_scal {E : En} {c : Cx} (hi : Inv E c) {w' : World} (hc : Chg (fun _ => False) c.w w') : Inv E ⟨c.F, w', c.κ, c.hp⟩ ∧ Le c ⟨c.F, w', c.κ, c.hp⟩ :=
  hi.step (fun _ => False) hc (fun _ h => h.elim) (fun id => OLe.refl _ _) (fun _ id => .inl ⟨rfl, rfl, fun _ _ _ h => h⟩) hi.inj hi.own
theorem after_call {E : En} {c : Cx} (hi : Inv E c) {w' : World} {F' : Nat → Prop} {κ' : Nat → Value} {H : List Ob} {g : Nat} (hI : Inv ⟨c.w, c.F, fun _ => False, fun _ _ => False⟩ ⟨F', w', κ', H⟩) (hg : ∀ j, j < H.length → look c.hp (g + j) = .free) (hl : g + H.length ≤ c.hp.length) :
    ∃ κ2, Inv E ⟨F', w', κ2, setUps c.hp (news (fun q => g + q) g H 0)⟩ ∧ Le c ⟨F', w', κ2, setUps c.hp (news (fun q => g + q) g H 0)⟩ ∧ Rn (fun q => g + q) ⟨F', w', κ', H⟩ ⟨F', w', κ2, setUps c.hp (news (fun q => g + q) g H 0)⟩ := by
  obtain ⟨κ2, hκ⟩ : ∃ κ2 : Nat → Value, κ2 = fun id => if g ≤ id ∧ id < g + H.length then κ' (id - g) else c.κ id := ⟨_, rfl⟩
  have hlook : ∀ id, look (setUps c.hp (news (fun q => g + q) g H 0)) id = if g ≤ id ∧ id < g + H.length then (look H (id - g)).ren (fun q => g + q) else look c.hp id := by
    intro id
    have := look_news (fun q => g + q) g H 0 c.hp id (by omega)
    simpa using this
  have hnew : ∀ {id}, g ≤ id ∧ id < g + H.length → look c.hp id = .free := by
    intro id h
    have := hg (id - g) (by omega)
    rwa [show g + (id - g) = id from by omega] at this
  have hFold : ∀ b, F' b → c.F b ∨ c.w.heap.size ≤ b := fun b hb => by
    rcases hI.f1 b hb with h | h | h
    · exact .inl h
    · exact h.elim
    · exact .inr h
  have hle : Le c ⟨F', w', κ2, setUps c.hp (news (fun q => g + q) g H 0)⟩ := by
    refine ⟨hI.f0, fun b hb => hI.chg.block b (hi.lt b hb) (fun h => h), fun id => ?_⟩
    show OLe (look c.hp id) (look (setUps c.hp _) id) (c.κ id) (κ2 id)
    rw [hlook, hκ]
    by_cases h : g ≤ id ∧ id < g + H.length
    · rw [hnew h]; trivial
    · simp only [if_neg h]; exact OLe.refl _ _
  have hrn : Rn (fun q => g + q) ⟨F', w', κ', H⟩ ⟨F', w', κ2, setUps c.hp (news (fun q => g + q) g H 0)⟩ := by
    refine ⟨fun _ h => h, fun _ _ => rfl, fun id hne => ?_⟩
    have hid : id < H.length := look_lt hne
    have hcond : g ≤ g + id ∧ g + id < g + H.length := by omega
    refine ⟨?_, ?_⟩
    · show look (setUps c.hp _) (g + id) = _
      rw [hlook, if_pos hcond, Nat.add_sub_cancel_left]
    · show κ2 (g + id) = κ' id
      have e : κ2 (g + id) = κ' (g + id - g) := by rw [hκ]; exact if_pos hcond
      rw [e, Nat.add_sub_cancel_left]
  refine ⟨κ2, ⟨⟨hI.chg.os.trans hi.chg.os, hI.chg.tape.trans hi.chg.tape, hI.chg.output.trans hi.chg.output, Nat.le_trans hi.chg.drawn hI.chg.drawn, Nat.le_trans hi.chg.size hI.chg.size, fun b hb hM => ?_⟩, fun b hb => hI.f0 b (hi.f0 b hb), fun b hb => ?_, hI.lt, fun id => ?_, fun i j b h1 h2 h3 h4 => ?_, fun i b h1 h2 => ?_⟩, hle, hrn⟩
  · exact (hI.chg.block b (Nat.lt_of_lt_of_le hb hi.chg.size) (fun h => h)).trans (hi.chg.block b hb hM)
  · rcases hFold b hb with h | h
    · exact hi.f1 b h
    · exact .inr (.inr (Nat.le_trans hi.chg.size h))
  · show RelO _ (κ2 id) (look (setUps c.hp _) id)
    rw [hlook]
    by_cases h : g ≤ id ∧ id < g + H.length
    · rw [if_pos h]
      have hκ2 : κ2 id = κ' (id - g) := by rw [hκ]; exact if_pos h
      rw [hκ2]
      exact RelO.ren hrn rfl rfl (hI.objs (id - g))
    · rw [if_neg h]
      have hκ2 : κ2 id = c.κ id := by rw [hκ]; exact if_neg h
      rw [hκ2]
      by_cases hal : look c.hp id = .free ∨ look c.hp id = .dead
      · rcases hal with h | h <;> rw [h] <;> trivial
      · have hlt := RelO.lt (hi.objs id) (fun e => hal (.inl e)) (fun e => hal (.inr e))
        refine RelO.keep hle (hi.objs id) (fun b hb => hI.chg.block b (hlt b hb) (fun h => h)) (fun b hb hm => ?_)
        intro hF
        rcases hFold b hF with h | h
        · exact hi.notF hm b hb h
        · have := hlt b hb
          omega
  · have hmutnew : ∀ {k}, g ≤ k ∧ k < g + H.length → (look (setUps c.hp (news (fun q => g + q) g H 0)) k).mut = true → (look H (k - g)).mut = true := by
      intro k hk hm
      rw [hlook, if_pos hk, mut_ren] at hm
      exact hm
    have hbnew : ∀ {k b}, g ≤ k ∧ k < g + H.length → (look (setUps c.hp (news (fun q => g + q) g H 0)) k).mut = true → blk (κ2 k) = some b → blk (κ' (k - g)) = some b ∧ c.w.heap.size ≤ b := by
      intro k b hk hm hb
      have e : κ2 k = κ' (k - g) := by rw [hκ]; exact if_pos hk
      rw [e] at hb
      exact ⟨hb, (hI.own (k - g) b (hmutnew hk hm) hb).resolve_left (fun h => h)⟩
    have hbold : ∀ {k b}, ¬ (g ≤ k ∧ k < g + H.length) → (look (setUps c.hp (news (fun q => g + q) g H 0)) k).mut = true → blk (κ2 k) = some b → (look c.hp k).mut = true ∧ blk (c.κ k) = some b ∧ b < c.w.heap.size := by
      intro k b hk hm hb
      rw [hlook, if_neg hk] at hm
      have e : κ2 k = c.κ k := by rw [hκ]; exact if_neg hk
      rw [e] at hb
      exact ⟨hm, hb, hi.blk_lt hm b hb⟩
    by_cases e : g ≤ i ∧ i < g + H.length <;> by_cases e' : g ≤ j ∧ j < g + H.length
    · have := hI.inj (i - g) (j - g) b (hmutnew e h1) (hmutnew e' h2) (hbnew e h1 h3).1 (hbnew e' h2 h4).1
      omega
    · have a1 := (hbnew e h1 h3).2
      have a2 := (hbold e' h2 h4).2.2
      omega
    · have a1 := (hbnew e' h2 h4).2
      have a2 := (hbold e h1 h3).2.2
      omega
    · have a1 := hbold e h1 h3
      have a2 := hbold e' h2 h4
      exact hi.inj i j b a1.1 a2.1 a1.2.1 a2.2.1
  · have h1' : (look (setUps c.hp (news (fun q => g + q) g H 0)) i).mut = true := h1
    have h2' : blk (κ2 i) = some b := h2
    rw [hlook] at h1'
    by_cases e : g ≤ i ∧ i < g + H.length
    · rw [if_pos e, mut_ren] at h1'
      have e2 : κ2 i = κ' (i - g) := by rw [hκ]; exact if_pos e
      rw [e2] at h2'
      exact .inr (Nat.le_trans hi.chg.size ((hI.own (i - g) b h1' h2').resolve_left (fun h => h)))
    · rw [if_neg e] at h1'
      have e2 : κ2 i = c.κ i := by rw [hκ]; exact if_neg e
      rw [e2] at h2'
      exact hi.own i b h1' h2'
theorem call_ok {P : Program} {E : En} {c : Cx} (hi : Inv E c) {lk : Nat → Ob} (hlk : ∀ id, lk id = .free ∨ lk id = look c.hp id) {g : Nat} (hg : ∀ j, j < 4 → look c.hp (g + j) = .free ∧ g + j < c.hp.length) {f : FuncId} {args : List FV} {h : Hn} {rs : Rs} {vs : Array Value}
    (hc : callF P f args lk g h = some rs) (hob : rs.ob) (r : RelVs c args vs.toList) {R : Value → World → Prop} {O : World → Prop}
    (hK : ∀ v c', Inv E c' → Le c c' → c'.hp = setUps c.hp rs.ups → RelV c' rs.r v → R v c'.w) :
    (∃ fn, P.funcs[f]? = some fn ∧ fn.body.isNone = false ∧ (fn.name == "runtime.NumGoroutine") = false) ∧ Calls P f vs c.w fun e w' => ∃ v, e = .returned v ∧ R v w' := by
  obtain ⟨oas, res, H, hc⟩ : ∃ oas res H, callB P f args lk g oas res H = some rs := by
    unfold callF at hc
    split at hc
    · exact ⟨_, _, _, hc⟩
    · exact ⟨_, _, _, hc⟩
    · cases hc
  unfold callB at hc
  split at hc
  case h_1 => cases hc
  rename_i fn hfn
  split at hc
  case isFalse => cases hc
  rename_i hb
  refine ⟨⟨fn, hfn, by simpa using hb.1, hb.2⟩, ?_⟩
  split at hc
  case h_1 => cases hc
  rename_i xs hxs
  obtain ⟨F1, i1, l1, r1⟩ := toArgs_ok (E := E) lk args xs c _ hi (fun z => (hlk z).imp (fun hz => hz) (fun hz => .inl hz.symm)) hxs r
  split at hc
  · rename_i hs
    simp only [Option.some.injEq] at hc
    subst hc
    have hspec := callOb_ok hob
    refine (hspec c.w F1 c.κ vs i1.lt r1).mono fun e w' ⟨v, F', κ', he, hI, hv⟩ => ⟨v, he, ?_⟩
    obtain ⟨i2, l2⟩ := after_scal hi (w' := w') hI.chg
    exact hK v ⟨c.F, w', c.κ, c.hp⟩ i2 l2 rfl (scal_ok hs.1 hv)
  · split at hc
    case isFalse => cases hc
    rename_i hlen
    simp only [Option.some.injEq] at hc
    subst hc
    have hspec := callOb_ok hob
    refine (hspec c.w F1 c.κ vs i1.lt r1).mono fun e w' ⟨v, F', κ', he, hI, hv⟩ => ⟨v, he, ?_⟩
    have hgl := hg 3 (by omega)
    obtain ⟨κ2, i2, l2, rn⟩ := after_call (g := g) i1 hI (fun j hj => by
      show look (setUps c.hp _) (g + j) = .free
      rw [look_setUps_ge (by omega) _ _ hlen.2]
      exact (hg j (by omega)).1) (by show g + H.length ≤ (setUps c.hp _).length; rw [setUps_length]; omega)
    exact hK v _ i2 (Le.trans l1 l2) (by show _ = setUps c.hp (_ ++ _); rw [setUps_append]) (RelV.ren rn _ _ hv)
end Go.Proofs.YtjhnpaenhdbhpacV
set_option linter.unusedVariables false
set_option linter.unusedSimpArgs false
set_option linter.constructorNameAsVariable false
namespace Go.Proofs.YtjhnpaenhdbhpacV
open Go Go.RowKit
mutual
def okR (ids : List Nat) : FV → Bool
  | .agg cs => okRs ids cs
  | .fn _ cs => okRs ids cs
  | .tup us => okRs ids us
  | .sref id _ _ _ => ids.contains id
  | .ssub id _ _ _ _ => ids.contains id
  | .ptr id _ _ => ids.contains id
  | .mref id _ => ids.contains id
  | _ => true
def okRs (ids : List Nat) : List FV → Bool
  | [] => true
  | x :: xs => okR ids x && okRs ids xs
end
structure RnS (ids : List Nat) (ρ : Nat → Nat) (c c' : Cx) : Prop where
  F : ∀ b, c.F b → c'.F b
  w : ∀ b, c.F b → c'.w.heap[b]? = c.w.heap[b]?
  o : ∀ id, id ∈ ids → look c.hp id ≠ .free → look c'.hp (ρ id) = (look c.hp id).ren ρ ∧ c'.κ (ρ id) = c.κ id
mutual
theorem RelV.renS {ids : List Nat} {ρ : Nat → Nat} {c c' : Cx} (h : RnS ids ρ c c') : ∀ (x : FV) (v : Value), okR ids x = true → RelV c x v → RelV c' (x.ren ρ) v
  | .u, v, _, _ => by simp [FV.ren, RelV]
  | .und, v, _, r => by simpa [FV.ren, RelV] using r
  | .nil, v, _, r => by simpa [FV.ren, RelV] using r
  | .p a, v, _, r => by
    simp only [FV.ren, RelV] at r ⊢
    exact Rep.mono h.F h.w a v r
  | .agg cs, v, k, r => by
    simp only [FV.ren, RelV] at r ⊢
    obtain ⟨vs, hv, hr⟩ := r
    exact ⟨vs, hv, RelVs.renS h cs _ (by simpa [okR] using k) hr⟩
  | .sref id e sz n, v, k, r => by
    simp only [FV.ren, RelV] at r ⊢
    refine ⟨r.1, ?_⟩
    have hr := r.2
    have hne : look c.hp id ≠ .free := fun e => by rw [e] at hr; exact hr
    obtain ⟨h1, h2⟩ := h.o id (by simpa [okR] using k) hne
    rw [h1, h2]
    cases ho : look c.hp id <;> rw [ho] at hr <;> first | exact hr | trivial
  | .ssub id e sz lo n, v, k, r => by
    simp only [FV.ren, RelV] at r ⊢
    refine ⟨r.1, ?_⟩
    have hr := r.2
    have hne : look c.hp id ≠ .free := fun e => by rw [e] at hr; exact hr
    obtain ⟨h1, h2⟩ := h.o id (by simpa [okR] using k) hne
    rw [h1, h2]
    cases ho : look c.hp id <;> rw [ho] at hr <;> first | exact hr | trivial
  | .ptr id i j, v, k, r => by
    simp only [FV.ren, RelV] at r ⊢
    obtain ⟨a, hv, hr⟩ := r
    refine ⟨a, hv, ?_⟩
    have hne : look c.hp id ≠ .free := fun e => by rw [e] at hr; exact hr
    obtain ⟨h1, h2⟩ := h.o id (by simpa [okR] using k) hne
    rw [h1, h2]
    cases ho : look c.hp id <;> rw [ho] at hr <;> first | exact hr | trivial
  | .vptr m f, v, _, r => by
    simp only [FV.ren, RelV] at r ⊢
    obtain ⟨b, o, hv, hb, hr⟩ := r
    refine ⟨b, o, hv, hb.imp id (h.F b), fun j hj => ?_⟩
    obtain ⟨x, h1, h2⟩ := hr j hj
    have hfb := hb.resolve_left (by omega)
    exact ⟨x, by rw [cell_of_heap (h.w b hfb)]; exact h1, Rep.mono h.F h.w _ _ h2⟩
  | .fn f caps, v, k, r => by
    simp only [FV.ren, RelV] at r ⊢
    obtain ⟨vs, hv, hr⟩ := r
    exact ⟨vs, hv, RelVs.renS h caps _ (by simpa [okR] using k) hr⟩
  | .tup us, v, k, r => by
    simp only [FV.ren, RelV] at r ⊢
    obtain ⟨vs, hv, hr⟩ := r
    exact ⟨vs, hv, RelVs.renS h us _ (by simpa [okR] using k) hr⟩
  | .mref id mm, v, k, r => by
    simp only [FV.ren, RelV] at r ⊢
    refine ⟨r.1, ?_⟩
    have hr := r.2
    have hne : look c.hp id ≠ .free := fun e => by rw [e] at hr; exact hr
    obtain ⟨h1, h2⟩ := h.o id (by simpa [okR] using k) hne
    rw [h1, h2]
    cases ho : look c.hp id <;> rw [ho] at hr <;> first | exact hr | trivial
theorem RelVs.renS {ids : List Nat} {ρ : Nat → Nat} {c c' : Cx} (h : RnS ids ρ c c') : ∀ (xs : List FV) (vs : List Value), okRs ids xs = true → RelVs c xs vs → RelVs c' (rens ρ xs) vs
  | [], vs, _, r => by simpa [rens, RelVs] using r
  | x :: xs, vs, k, r => by
    simp only [rens, RelVs] at r ⊢
    simp only [okRs, Bool.and_eq_true] at k
    obtain ⟨v, vs', hv, h1, h2⟩ := r
    exact ⟨v, vs', hv, RelV.renS h x v k.1 h1, RelVs.renS h xs vs' k.2 h2⟩
end
def okO (ids : List Nat) : Ob → Bool
  | .box cs => okRs ids cs
  | .arr .. => true
  | .reg (.map _) => true
  | .reg (.iter m _ _ _) => ids.contains m
  | _ => false
theorem RelG.renS {ids : List Nat} {ρ : Nat → Nat} {c c' : Cx} (h : RnS ids ρ c c') (hw : c'.w = c.w) {v : Value} {b : Nat} {g : Rg} (k : okO ids (.reg g) = true) (r : RelG c v b g) : RelG c' v b (g.ren ρ) := by
  have key : ∀ l : List PV, okRs ids (l.map PV.fv) = true := by
    intro l
    induction l with
    | nil => rfl
    | cons x l ih =>
      simp only [List.map_cons, okRs, ih, Bool.and_true]
      cases x with
      | one a => rfl
      | many l =>
        simp only [PV.fv, okR]
        induction l with
        | nil => rfl
        | cons a l ih => simp [okRs, okR, ih]
  cases g with
  | map es =>
    obtain ⟨h1, ents, h2, h3, h4, h5⟩ := r
    refine ⟨h1, ents, by rw [hw]; exact h2, ?_, ?_, h5⟩
    · have e : es.map (fun x => x.1.fv) = (es.map (·.1)).map PV.fv := by simp [Function.comp_def]
      rw [e] at h3 ⊢
      have := RelVs.renS h _ _ (key _) h3
      rwa [rens_pv] at this
    · have e : es.map (fun x => x.2.fv) = (es.map (·.2)).map PV.fv := by simp [Function.comp_def]
      rw [e] at h4 ⊢
      have := RelVs.renS h _ _ (key _) h4
      rwa [rens_pv] at this
  | iter m n seen cur =>
    obtain ⟨h1, bm, h2, h3, h4⟩ := r
    exact ⟨h1, bm, RelV.renS h _ _ (by simpa [okO, okR] using k) h2, by rw [hw]; exact h3, h4⟩
  | gone => trivial
theorem RelO.renS {ids : List Nat} {ρ : Nat → Nat} {c c' : Cx} (h : RnS ids ρ c c') (hw : c'.w = c.w) (hF : c'.F = c.F) {v : Value} {o : Ob} (k : okO ids o = true) (r : RelO c v o) : RelO c' v (o.ren ρ) := by
  cases o with
  | free => trivial
  | dead => trivial
  | arr own e sz n f =>
    obtain ⟨h0, xs, h1, h2, h3, h4⟩ := r
    exact ⟨h0, xs, by rw [hw]; exact h1, fun i hi j hj => by rw [hw, hF]; exact h2 i hi j hj, h3, fun b hb => by rw [hF]; exact h4 b hb⟩
  | box cs =>
    obtain ⟨b, C, t, h1, h2, h3, h4, h5⟩ := r
    exact ⟨b, C, t, h1, by rw [hw]; exact h2, by rw [hF]; exact h3, h4, RelVs.renS h _ _ k h5⟩
  | reg g =>
    obtain ⟨b, hb, hl, hf, hg⟩ := r
    exact ⟨b, hb, by rw [hw]; exact hl, by rw [hF]; exact hf, RelG.renS h hw k hg⟩
def pk (l : List Value) : Value :=
  match l with
  | [x] => x
  | _ => .tuple l.toArray
def SpecX (P : Program) (f : FuncId) (args : List FV) (Hin : List Ob) (outs : List Nat) (n : Nat) (res : FV) (H : List Ob) : Prop :=
  ∀ (E : En) (w : World) (F : Nat → Prop) (κ : Nat → Value) (vs : Array Value), Inv E ⟨F, w, κ, Hin⟩ → RelVs ⟨F, w, κ, Hin⟩ args vs.toList →
    Calls P f vs w fun e w' => ∃ (rs : List Value) (F' : Nat → Prop) (κ' : Nat → Value), rs.length = n ∧ e = .returned (pk rs) ∧ Inv E ⟨F', w', κ', H⟩ ∧ RelV ⟨F', w', κ', H⟩ res (pk (rs ++ outs.map fun t => vs.getD t undef))
def noDup : List Nat → Bool
  | [] => true
  | x :: xs => !xs.contains x && noDup xs
theorem setUps_keys (nh : Nat → Ob) : ∀ (keys : List Nat) (hp : List Ob) (id : Nat), (∀ k ∈ keys, k < hp.length) → look (setUps hp (keys.map fun k => (k, nh k))) id = if id ∈ keys then nh id else look hp id
  | [], hp, id, _ => by rw [if_neg (by simp)]; rfl
  | k :: keys, hp, id, h => by
    show look (setUps (hp.set k (nh k)) (keys.map fun k => (k, nh k))) id = _
    rw [setUps_keys nh keys (hp.set k (nh k)) id (fun q hq => by rw [List.length_set]; exact h q (List.mem_cons_of_mem _ hq))]
    by_cases h1 : id ∈ keys
    · rw [if_pos h1, if_pos (List.mem_cons_of_mem _ h1)]
    · rw [if_neg h1]
      by_cases h2 : id = k
      · subst h2
        rw [look_set_same _ (h id (List.mem_cons_self ..)), if_pos (List.mem_cons_self ..)]
      · rw [look_set_ne _ (Ne.symm h2), if_neg (by simp [h1, h2])]
def allocSF (P : Program) (t : TypeId) (g : Nat) : Option Rs :=
  match P.underlying t with
  | some (.slice e) => match P.info? e, P.info? t with
    | some i, some it => match it.zero with
      | some (.slice none 0 0) => if 0 < i.size then some ⟨.ptr g 0 0, [(g, .box [.sref (g + 1) e i.size 0]), (g + 1, .arr true e i.size 0 (fun _ _ => .u))], none⟩ else none
      | _ => none
    | _, _ => none
  | _ => allocF P t g
theorem step_allocS {P : Program} {E : En} {c : Cx} (hi : Inv E c) {g : Nat} (hg : look c.hp g = .free ∧ g < c.hp.length) (hg1 : look c.hp (g + 1) = .free ∧ g + 1 < c.hp.length) {t : TypeId} {rs : Rs} (h : allocSF P t g = some rs) :
    Step1 E c rs ((do pure (Next.value (← Instr.alloc t true (.tuple #[]))) : Sem Next).run P c.w) := by
  unfold allocSF at h
  split at h
  case h_2 => exact step_alloc hi hg h
  rename_i e hu
  split at h
  case h_2 => cases h
  rename_i i it hy hq
  split at h
  case h_2 => cases h
  rename_i hz
  split at h
  case isFalse => cases h
  rename_i hs0
  have hs : 0 < i.size ∧ (Value.slice none 0 0).cells = #[.slice none 0 0] := ⟨hs0, by simp [Value.cells]⟩
  simp only [Option.some.injEq] at h
  subst h
  obtain ⟨i1, l1⟩ := hi.new (w' := c.w) (g := g + 1) (v := .slice none 0 0) (o := .arr true e i.size 0 (fun _ _ => .u)) (Chg.refl _ _) hg1.1 hg1.2 (fun b hb => by simp [blk] at hb)
    (fun _ => ⟨hs.1, [], World.ownsRow_nil _ _ _ _, fun i hi => by omega, fun u hu => by simp at hu, fun b hb => by simp [blk] at hb⟩)
  have hlk1 : look (c.hp.set (g + 1) (.arr true e i.size 0 (fun _ _ => .u))) (g + 1) = .arr true e i.size 0 (fun _ _ => .u) := look_set_same _ hg1.2
  have hrel : RelVs ⟨c.F, c.w, upd c.κ (g + 1) (.slice none 0 0), c.hp.set (g + 1) (.arr true e i.size 0 (fun _ _ => .u))⟩ [.sref (g + 1) e i.size 0] (Value.slice none 0 0).cells.toList := by
    rw [hs.2]
    simp only [RelVs, RelV]
    refine ⟨_, [], rfl, ⟨⟨none, 0, rfl, by simp⟩, ?_⟩, rfl⟩
    show RefS (look (c.hp.set _ _) (g + 1)) _ _ _ _ _
    rw [hlk1]
    exact ⟨rfl, rfl, rfl, by simp [upd]⟩
  have hst := new_box (c := ⟨c.F, c.w, upd c.κ (g + 1) (.slice none 0 0), c.hp.set (g + 1) (.arr true e i.size 0 (fun _ _ => .u))⟩) i1 (g := g) (by
    refine ⟨?_, by simpa using hg.2⟩
    show look (c.hp.set _ _) g = _
    rw [look_set_ne _ (by omega)]; exact hg.1) t (C := (Value.slice none 0 0).cells) hrel (fun u hu => by rw [hs.2] at hu; simp at hu; subst hu; rfl)
    (q := (do pure (Next.value (← Instr.alloc t true (.tuple #[]))) : Sem Next).run P c.w) (by simp [Instr.alloc, newVar, newRow, zeroValue, typeInfo, hq, hz]) (ob := none)
  obtain ⟨nx, v, c', k1, k2, k3, k4, k5, k6⟩ := hst
  refine ⟨nx, v, c', k1, k2, k3, Le.trans l1 k4, ?_, k6⟩
  rw [k5]
  show (c.hp.set (g + 1) _).set g _ = (c.hp.set g _).set (g + 1) _
  exact List.set_comm _ _ (by omega)
def rhoX (g : Nat) (os : List (Nat × Nat)) (j : Nat) : Nat :=
  match os.find? (fun p => p.2 == j) with
  | some p => p.1
  | none => g + j
def nhX (g : Nat) (os : List (Nat × Nat)) (H : List Ob) (id : Nat) : Ob :=
  if id < g then match os.find? (fun p => p.1 == id) with
    | some p => (look H p.2).ren (rhoX g os)
    | none => .dead
  else if os.any (fun p => p.2 == id - g) then .free else (look H (id - g)).ren (rhoX g os)
def keysX (g : Nat) (ids : List Nat) (n : Nat) : List Nat := ids ++ (List.range n).map (g + ·)
theorem mem_keysX {g : Nat} {ids : List Nat} {n id : Nat} : id ∈ keysX g ids n ↔ id ∈ ids ∨ (g ≤ id ∧ id < g + n) := by
  unfold keysX
  simp only [List.mem_append, List.mem_map, List.mem_range]
  constructor
  · rintro (h | ⟨j, h, rfl⟩)
    · exact .inl h
    · exact .inr ⟨by omega, by omega⟩
  · rintro (h | h)
    · exact .inl h
    · exact .inr ⟨id - g, by omega, by omega⟩
theorem settledF {c : Cx} {v : Value} {o : Ob} (r : RelO c v o) (hm : o.mut = false) (h1 : o ≠ .free) (h2 : o ≠ .dead) : ∀ b, blk v = some b → c.F b := by
  intro b hb
  cases o with
  | free => exact absurd rfl h1
  | dead => exact absurd rfl h2
  | arr own e sz n f => obtain ⟨_, xs, _, _, _, h⟩ := r; exact (h b hb).2 hm
  | box cs => simp [Ob.mut] at hm
  | reg g => simp [Ob.mut] at hm
theorem after_callX {E : En} {c : Cx} (hi : Inv E c) {w' : World} {F' : Nat → Prop} {κ' : Nat → Value} {H : List Ob} {g : Nat} {ids : List Nat} {os : List (Nat × Nat)} {fx : Nat → Value → Prop}
    (hI : Inv ⟨c.w, c.F, fun b => ∃ id, id ∈ ids ∧ (look c.hp id).mut = true ∧ blk (c.κ id) = some b, fx⟩ ⟨F', w', κ', H⟩)
    (hids : ∀ id ∈ ids, id < g) (hos : ∀ p ∈ os, p.1 ∈ ids ∧ p.2 < H.length ∧ c.κ p.1 = κ' p.2 ∧ OLe (look c.hp p.1) ((look H p.2).ren (rhoX g os)) (c.κ p.1) (κ' p.2))
    (hn1 : ∀ p ∈ os, ∀ q ∈ os, p.1 = q.1 → p = q) (hn2 : ∀ p ∈ os, ∀ q ∈ os, p.2 = q.2 → p = q) (hg : ∀ j, j < H.length → look c.hp (g + j) = .free) (hl : g + H.length ≤ c.hp.length) :
    ∃ κ2, Inv E ⟨F', w', κ2, setUps c.hp ((keysX g ids H.length).map fun k => (k, nhX g os H k))⟩ ∧ Le c ⟨F', w', κ2, setUps c.hp ((keysX g ids H.length).map fun k => (k, nhX g os H k))⟩ ∧ Rn (rhoX g os) ⟨F', w', κ', H⟩ ⟨F', w', κ2, setUps c.hp ((keysX g ids H.length).map fun k => (k, nhX g os H k))⟩ := by
  obtain ⟨κ2, hκ⟩ : ∃ κ2 : Nat → Value, κ2 = fun id => if g ≤ id ∧ id < g + H.length then κ' (id - g) else c.κ id := ⟨_, rfl⟩
  obtain ⟨hp2, hhp2⟩ : ∃ hp2, hp2 = setUps c.hp ((keysX g ids H.length).map fun k => (k, nhX g os H k)) := ⟨_, rfl⟩
  rw [← hhp2]
  have hlook : ∀ id, look hp2 id = if id ∈ keysX g ids H.length then nhX g os H id else look c.hp id := fun id => by
    rw [hhp2]; exact setUps_keys _ _ _ _ (fun k hk => by rcases mem_keysX.1 hk with h | h; have := hids k h; omega; omega)
  have cls : ∀ id, (∃ p ∈ os, p.1 = id ∧ rhoX g os p.2 = id ∧ look hp2 id = (look H p.2).ren (rhoX g os) ∧ κ2 id = κ' p.2) ∨
      (∃ j, id = g + j ∧ j < H.length ∧ look c.hp id = .free ∧ κ2 id = κ' j ∧ (look hp2 id = .free ∧ (∃ p ∈ os, p.2 = j) ∨ rhoX g os j = id ∧ look hp2 id = (look H j).ren (rhoX g os))) ∨
      (look hp2 id = .dead) ∨ (id ∉ ids ∧ look hp2 id = look c.hp id ∧ κ2 id = c.κ id) := by
    intro id
    have hl2 := hlook id
    by_cases h1 : id ∈ ids
    · have hlt := hids id h1
      rw [if_pos (mem_keysX.2 (.inl h1))] at hl2
      unfold nhX at hl2
      rw [if_pos hlt] at hl2
      cases hf : os.find? (fun p => p.1 == id) with
      | none => rw [hf] at hl2; exact .inr (.inr (.inl hl2))
      | some p =>
        rw [hf] at hl2
        have hp : p ∈ os := List.mem_of_find?_eq_some hf
        have hpi : p.1 = id := by have := List.find?_some hf; simpa using this
        refine .inl ⟨p, hp, hpi, ?_, hl2, ?_⟩
        · unfold rhoX
          cases hf2 : os.find? (fun q => q.2 == p.2) with
          | none => have := List.find?_eq_none.1 hf2 p hp; simp at this
          | some q =>
            have hq2 : q.2 = p.2 := by have := List.find?_some hf2; simpa using this
            rw [hn2 q (List.mem_of_find?_eq_some hf2) p hp hq2]; exact hpi
        · rw [hκ]; simp only
          rw [if_neg (by omega), ← hpi]; exact (hos p hp).2.2.1
    · by_cases h2 : g ≤ id ∧ id < g + H.length
      · rw [if_pos (mem_keysX.2 (.inr h2))] at hl2
        unfold nhX at hl2
        rw [if_neg (by omega)] at hl2
        refine .inr (.inl ⟨id - g, by omega, by omega, ?_, by rw [hκ]; simp only; rw [if_pos h2], ?_⟩)
        · have := hg (id - g) (by omega); rwa [show g + (id - g) = id from by omega] at this
        · by_cases h3 : os.any (fun p => p.2 == id - g) = true
          · rw [if_pos h3] at hl2
            obtain ⟨p, hp, hp2⟩ := List.any_eq_true.1 h3
            exact .inl ⟨hl2, p, hp, by simpa using hp2⟩
          · rw [if_neg h3] at hl2
            refine .inr ⟨?_, hl2⟩
            unfold rhoX
            cases hf2 : os.find? (fun q => q.2 == id - g) with
            | none => simp only; omega
            | some q => exact absurd (List.any_eq_true.2 ⟨q, List.mem_of_find?_eq_some hf2, List.find?_some hf2⟩) h3
      · rw [if_neg (fun h => (mem_keysX.1 h).elim h1 h2)] at hl2
        exact .inr (.inr (.inr ⟨h1, hl2, by rw [hκ]; simp only; rw [if_neg h2]⟩))
  have hMF : ∀ b, c.F b → ¬ ∃ id, id ∈ ids ∧ (look c.hp id).mut = true ∧ blk (c.κ id) = some b := fun b hb ⟨id, _, hm, hbk⟩ => hi.notF hm b hbk hb
  have hME : ∀ b, (∃ id, id ∈ ids ∧ (look c.hp id).mut = true ∧ blk (c.κ id) = some b) → E.M b ∨ E.w.heap.size ≤ b := fun b ⟨id, _, hm, hbk⟩ => hi.own id b hm hbk
  have hMo : ∀ id, id ∉ ids → look c.hp id ≠ .free → look c.hp id ≠ .dead → ∀ b, blk (c.κ id) = some b → ¬ ∃ id', id' ∈ ids ∧ (look c.hp id').mut = true ∧ blk (c.κ id') = some b := by
    intro id hid h1 h2 b hb ⟨id', hid', hm', hb'⟩
    by_cases hm : (look c.hp id).mut = true
    · exact hid (hi.inj id id' b hm hm' hb hb' ▸ hid')
    · exact hi.notF hm' b hb' (settledF (hi.objs id) (by simpa using hm) h1 h2 b hb)
  have hle : Le c ⟨F', w', κ2, hp2⟩ := by
    refine ⟨hI.f0, fun b hb => hI.chg.block b (hi.lt b hb) (hMF b hb), fun id => ?_⟩
    show OLe (look c.hp id) (look hp2 id) (c.κ id) (κ2 id)
    rcases cls id with ⟨p, hp, rfl, _, h2, h3⟩ | ⟨j, _, _, h1, _⟩ | h | ⟨_, h1, h2⟩
    · rw [h2, h3]; exact (hos p hp).2.2.2
    · rw [h1]; trivial
    · rw [h]; cases look c.hp id <;> simp [OLe]
    · rw [h1, h2]; exact OLe.refl _ _
  have hrn : Rn (rhoX g os) ⟨F', w', κ', H⟩ ⟨F', w', κ2, hp2⟩ := by
    refine ⟨fun _ h => h, fun _ _ => rfl, fun j hne => ?_⟩
    have hj : j < H.length := look_lt hne
    show look hp2 (rhoX g os j) = (look H j).ren (rhoX g os) ∧ κ2 (rhoX g os j) = κ' j
    by_cases h : ∃ p ∈ os, p.2 = j
    · obtain ⟨p, hp, rfl⟩ := h
      have hr : rhoX g os p.2 = p.1 := by
        unfold rhoX
        cases hf2 : os.find? (fun q => q.2 == p.2) with
        | none => have := List.find?_eq_none.1 hf2 p hp; simp at this
        | some q =>
          have hq2 : q.2 = p.2 := by have := List.find?_some hf2; simpa using this
          rw [hn2 q (List.mem_of_find?_eq_some hf2) p hp hq2]
      rw [hr]
      rcases cls p.1 with ⟨q, hq, hq1, _, h2, h3⟩ | ⟨j, hj1, _⟩ | h | ⟨h1, _⟩
      · rw [hn1 q hq p hp hq1] at h2 h3; exact ⟨h2, h3⟩
      · have := hids p.1 (hos p hp).1; omega
      · have hin := (hos p hp).1
        have := hlook p.1
        rw [if_pos (mem_keysX.2 (.inl hin))] at this
        unfold nhX at this
        rw [if_pos (hids _ hin)] at this
        cases hf : os.find? (fun q => q.1 == p.1) with
        | none => have := List.find?_eq_none.1 hf p hp; simp at this
        | some q =>
          rw [hf] at this
          have hq1 : q.1 = p.1 := by have := List.find?_some hf; simpa using this
          rw [hn1 q (List.mem_of_find?_eq_some hf) p hp hq1] at this
          refine ⟨this, ?_⟩
          rw [hκ]; simp only
          rw [if_neg (by have := hids _ hin; omega)]
          exact (hos p hp).2.2.1
      · exact absurd (hos p hp).1 h1
    · have hr : rhoX g os j = g + j := by
        unfold rhoX
        cases hf2 : os.find? (fun q => q.2 == j) with
        | none => rfl
        | some q => exact absurd ⟨q, List.mem_of_find?_eq_some hf2, by have := List.find?_some hf2; simpa using this⟩ h
      rw [hr]
      rcases cls (g + j) with ⟨p, hp, h1, _⟩ | ⟨j', hj1, _, _, h3, h4⟩ | h5 | ⟨h1, h2, h3⟩
      · have := hids p.1 (hos p hp).1; omega
      · obtain rfl : j = j' := by omega
        rcases h4 with ⟨_, p, hp, e⟩ | ⟨_, h4⟩
        · exact absurd ⟨p, hp, e⟩ h
        · exact ⟨h4, h3⟩
      · have := hlook (g + j)
        rw [if_pos (mem_keysX.2 (.inr ⟨by omega, by omega⟩))] at this
        unfold nhX at this
        rw [if_neg (by omega), Nat.add_sub_cancel_left, if_neg (by
          intro ha
          obtain ⟨p, hp, hp2⟩ := List.any_eq_true.1 ha
          exact h ⟨p, hp, by simpa using hp2⟩)] at this
        refine ⟨this, ?_⟩
        rw [hκ]; simp only
        rw [if_pos (by omega), Nat.add_sub_cancel_left]
      · have := hlook (g + j)
        rw [if_pos (mem_keysX.2 (.inr ⟨by omega, by omega⟩))] at this
        unfold nhX at this
        rw [if_neg (by omega), Nat.add_sub_cancel_left, if_neg (by
          intro ha
          obtain ⟨p, hp, hp2⟩ := List.any_eq_true.1 ha
          exact h ⟨p, hp, by simpa using hp2⟩)] at this
        refine ⟨this, ?_⟩
        rw [hκ]; simp only
        rw [if_pos (by omega), Nat.add_sub_cancel_left]
  have hmt : ∀ id b, (look hp2 id).mut = true → blk (κ2 id) = some b → (∃ j, rhoX g os j = id ∧ (look H j).mut = true ∧ blk (κ' j) = some b) ∨ (id ∉ ids ∧ (look c.hp id).mut = true ∧ blk (c.κ id) = some b) := by
    intro id b hm hb
    rcases cls id with ⟨p, hp, _, hr, h2, h3⟩ | ⟨j, _, _, _, h3, h4⟩ | h | ⟨h0, h1, h2⟩
    · rw [h2, mut_ren] at hm; rw [h3] at hb; exact .inl ⟨p.2, hr, hm, hb⟩
    · rcases h4 with ⟨h4, _⟩ | ⟨hr, h4⟩
      · rw [h4] at hm; simp [Ob.mut] at hm
      · rw [h4, mut_ren] at hm; rw [h3] at hb; exact .inl ⟨j, hr, hm, hb⟩
    · rw [h] at hm; simp [Ob.mut] at hm
    · rw [h1] at hm; rw [h2] at hb; exact .inr ⟨h0, hm, hb⟩
  refine ⟨κ2, ⟨⟨hI.chg.os.trans hi.chg.os, hI.chg.tape.trans hi.chg.tape, hI.chg.output.trans hi.chg.output, Nat.le_trans hi.chg.drawn hI.chg.drawn, Nat.le_trans hi.chg.size hI.chg.size, fun b hb hM => ?_⟩, fun b hb => hI.f0 b (hi.f0 b hb), fun b hb => ?_, hI.lt, fun id => ?_, fun i j b h1 h2 h3 h4 => ?_, fun i b h1 h2 => ?_⟩, hle, hrn⟩
  · refine (hI.chg.block b (Nat.lt_of_lt_of_le hb hi.chg.size) (fun h => ?_)).trans (hi.chg.block b hb hM)
    rcases hME b h with h | h
    · exact hM h
    · omega
  · rcases hI.f1 b hb with h | h | h
    · exact hi.f1 b h
    · exact .inr (hME b h)
    · exact .inr (.inr (Nat.le_trans hi.chg.size h))
  · show RelO _ (κ2 id) (look hp2 id)
    rcases cls id with ⟨p, hp, _, hr, h2, h3⟩ | ⟨j, _, _, _, h3, h4⟩ | h | ⟨h0, h1, h2⟩
    · rw [h2, h3]; exact RelO.ren hrn rfl rfl (hI.objs p.2)
    · rcases h4 with ⟨h4, _⟩ | ⟨hr, h4⟩
      · rw [h4]; trivial
      · rw [h4, h3]; exact RelO.ren hrn rfl rfl (hI.objs j)
    · rw [h]; trivial
    · rw [h1, h2]
      by_cases hal : look c.hp id = .free ∨ look c.hp id = .dead
      · rcases hal with h | h <;> rw [h] <;> trivial
      · have hnf : look c.hp id ≠ .free := fun e => hal (.inl e)
        have hnd : look c.hp id ≠ .dead := fun e => hal (.inr e)
        have hlt := RelO.lt (hi.objs id) hnf hnd
        refine RelO.keep hle (hi.objs id) (fun b hb => hI.chg.block b (hlt b hb) (hMo id h0 hnf hnd b hb)) (fun b hb hm hF => ?_)
        rcases hI.f1 b hF with h | h | h
        · exact hi.notF hm b hb h
        · exact hMo id h0 hnf hnd b hb h
        · have := hlt b hb; have h' : c.w.heap.size ≤ b := h; omega
  · rcases hmt i b h1 h3 with ⟨k, e, hk1, hk2⟩ | ⟨a0, a1, a2⟩ <;> rcases hmt j b h2 h4 with ⟨k', e', hk1', hk2'⟩ | ⟨a0', a1', a2'⟩
    · rw [← e, ← e', hI.inj k k' b hk1 hk1' hk2 hk2']
    · exfalso
      rcases hI.own k b hk1 hk2 with h | h
      · exact hMo j a0' (mut_ne a1').1 (mut_ne a1').2 b a2' h
      · have := hi.blk_lt a1' b a2'; have h' : c.w.heap.size ≤ b := h; omega
    · exfalso
      rcases hI.own k' b hk1' hk2' with h | h
      · exact hMo i a0 (mut_ne a1).1 (mut_ne a1).2 b a2 h
      · have := hi.blk_lt a1 b a2; have h' : c.w.heap.size ≤ b := h; omega
    · exact hi.inj i j b a1 a1' a2 a2'
  · rcases hmt i b h1 h2 with ⟨k, e, hk1, hk2⟩ | ⟨a0, a1, a2⟩
    · rcases hI.own k b hk1 hk2 with h | h
      · exact hME b h
      · exact .inr (Nat.le_trans hi.chg.size h)
    · exact hi.own i b a1 a2
def one1 (lk : Nat → Ob) (H : List Ob) : FV → FV → Option (Nat × Nat)
  | .ptr id i i', .ptr j q q' => if i = 0 ∧ i' = 0 ∧ q = 0 ∧ q' = 0 then match lk id, look H j with
    | .box _, .box _ => some (id, j)
    | _, _ => none
    else none
  | .sref id e sz _, .sref j e' sz' _ => if e = e' ∧ sz = sz' then match lk id, look H j with
    | .arr .., .arr .. => some (id, j)
    | _, _ => none
    else none
  | _, _ => none
def mkOs (lk : Nat → Ob) (H : List Ob) : List FV → List FV → Option (List (Nat × Nat))
  | [], [] => some []
  | a :: al, u :: us => match one1 lk H a u, mkOs lk H al us with
    | some p, some l => some (p :: l)
    | _, _ => none
  | _, _ => none
theorem one1_ok {c c' : Cx} {lk : Nat → Ob} (hlk : ∀ id, lk id = .free ∨ lk id = look c.hp id) {a u : FV} {v : Value} {p : Nat × Nat} (h : one1 lk c'.hp a u = some p) (ha : RelV c a v) (hu : RelV c' u v) (ρ : Nat → Nat) : c.κ p.1 = c'.κ p.2 ∧ OLe (look c.hp p.1) ((look c'.hp p.2).ren ρ) (c.κ p.1) (c'.κ p.2) := by
  unfold one1 at h
  split at h
  · split at h
    case isFalse => cases h
    rename_i id i i' j q q' hz
    obtain ⟨rfl, rfl, rfl, rfl⟩ := hz
    split at h
    case h_2 => cases h
    rename_i cs cs' h1 h2
    simp only [Option.some.injEq] at h
    subst h
    have hl : look c.hp id = .box cs := by rcases hlk id with e | e; rw [h1] at e; cases e; rw [← e]; exact h1
    simp only [RelV] at ha hu
    obtain ⟨x, rfl, hx⟩ := ha
    obtain ⟨y, hy, hy'⟩ := hu
    obtain rfl : x = y := by simpa using hy
    rw [hl] at hx
    rw [h2] at hy'
    obtain ⟨_, b, k1, rfl⟩ := hx
    obtain ⟨_, b', k2, k3⟩ := hy'
    have hbb : b = b' := by simpa using congrArg Addr.block k3
    subst hbb
    refine ⟨k1.trans k2.symm, ?_⟩
    rw [hl, h2]
    exact .inr ⟨k2.trans k1.symm, _, rfl⟩
  · split at h
    case isFalse => cases h
    rename_i id e sz n j e' sz' n' hz
    obtain ⟨rfl, rfl⟩ := hz
    split at h
    case h_2 => cases h
    rename_i o1 e1 sz1 n1 f1 o2 e2 sz2 n2 f2 h1 h2
    simp only [Option.some.injEq] at h
    subst h
    have hl : look c.hp id = .arr o1 e1 sz1 n1 f1 := by rcases hlk id with e | e; rw [h1] at e; cases e; rw [← e]; exact h1
    simp only [RelV] at ha hu
    obtain ⟨⟨b, cap, hv, _⟩, hx⟩ := ha
    obtain ⟨⟨b', cap', hv', _⟩, hy⟩ := hu
    have hnn : n = n' := by rw [hv] at hv'; simp at hv'; exact hv'.2.1
    rw [hl] at hx
    rw [h2] at hy
    obtain ⟨a1, a2, a3, a4⟩ := hx
    obtain ⟨b1, b2, b3, b4⟩ := hy
    refine ⟨a4.symm.trans b4, ?_⟩
    rw [hl, h2]
    subst a1 a2 a3 b1 b2 hnn b3
    exact .inr ⟨b4.symm.trans a4, _, _, rfl⟩
  · cases h
theorem mkOs_ok {c c' : Cx} {lk : Nat → Ob} (hlk : ∀ id, lk id = .free ∨ lk id = look c.hp id) (ρ : Nat → Nat) : ∀ (al us : List FV) (vl : List Value) (os : List (Nat × Nat)), mkOs lk c'.hp al us = some os → RelVs c al vl → RelVs c' us vl → ∀ p ∈ os, c.κ p.1 = c'.κ p.2 ∧ OLe (look c.hp p.1) ((look c'.hp p.2).ren ρ) (c.κ p.1) (c'.κ p.2)
  | [], [], vl, os, h, _, _ => by simp only [mkOs, Option.some.injEq] at h; subst h; simp
  | a :: al, u :: us, vl, os, h, ha, hu => by
    simp only [mkOs] at h
    split at h
    case h_2 => cases h
    rename_i p l h1 h2
    simp only [Option.some.injEq] at h
    subst h
    simp only [RelVs] at ha hu
    obtain ⟨v, vl', rfl, k1, k2⟩ := ha
    obtain ⟨v', vl'', hv, k3, k4⟩ := hu
    simp only [List.cons.injEq] at hv
    obtain ⟨rfl, rfl⟩ := hv
    intro q hq
    rcases List.mem_cons.1 hq with rfl | hq
    · exact one1_ok hlk h1 k1 k3 ρ
    · exact mkOs_ok hlk ρ al us vl' l h2 k2 k4 q hq
  | [], u :: us, vl, os, h, _, _ => by simp [mkOs] at h
  | a :: al, [], vl, os, h, _, _ => by simp [mkOs] at h
def unpk (total : Nat) (res : FV) : Option (List FV) :=
  if total = 1 then some [res] else match res with
    | .tup us => some us
    | _ => none
def pkF (l : List FV) : FV :=
  match l with
  | [x] => x
  | _ => .tup l
theorem unpk_ok {c : Cx} {n : Nat} {res : FV} {us : List FV} {l : List Value} (h : unpk n res = some us) (hl : l.length = n) (r : RelV c res (pk l)) : RelVs c us l := by
  unfold unpk at h
  split at h
  · rename_i h1
    simp only [Option.some.injEq] at h
    subst h
    subst hl
    obtain ⟨x, rfl⟩ := List.length_eq_one_iff.1 h1
    simp only [RelVs]
    exact ⟨x, [], rfl, r, rfl⟩
  · rename_i h1
    split at h
    case h_2 => cases h
    simp only [Option.some.injEq] at h
    subst h
    have hp : pk l = .tuple l.toArray := by
      unfold pk
      split
      · exact absurd hl.symm h1
      · rfl
    rw [hp] at r
    simp only [RelV] at r
    obtain ⟨vs, hv, hr⟩ := r
    have hv' : vs = l.toArray := by simpa using hv.symm
    rw [hv'] at hr
    simpa using hr
theorem pkF_ok {c : Cx} {us : List FV} {l : List Value} (r : RelVs c us l) : RelV c (pkF us) (pk l) := by
  have hl := r.length
  unfold pkF
  split
  · rename_i x
    obtain ⟨v, rfl⟩ := List.length_eq_one_iff.1 hl
    simp only [RelVs] at r
    obtain ⟨v', l', hv, h1, h2⟩ := r
    simp only [List.cons.injEq] at hv
    obtain ⟨rfl, _⟩ := hv
    exact h1
  · rename_i hne
    have hp : pk l = .tuple l.toArray := by
      unfold pk
      split
      · rename_i x
        exfalso
        obtain ⟨u, hu⟩ := List.length_eq_one_iff.1 hl.symm
        exact hne u hu
      · rfl
    rw [hp]
    simp only [RelV]
    exact ⟨_, rfl, by simpa using r⟩
theorem RelVs.take {c : Cx} : ∀ (xs : List FV) (vs : List Value) (n : Nat), RelVs c xs vs → RelVs c (xs.take n) (vs.take n)
  | xs, vs, 0, _ => by simp [RelVs]
  | [], vs, n + 1, r => by simp only [RelVs] at r; subst r; simp [RelVs]
  | x :: xs, vs, n + 1, r => by
    simp only [RelVs] at r
    obtain ⟨v, vs', rfl, h1, h2⟩ := r
    simp only [List.take_succ_cons, RelVs]
    exact ⟨v, _, rfl, h1, RelVs.take xs vs' n h2⟩
theorem RelVs.drop {c : Cx} : ∀ (xs : List FV) (vs : List Value) (n : Nat), RelVs c xs vs → RelVs c (xs.drop n) (vs.drop n)
  | xs, vs, 0, r => by simpa using r
  | [], vs, n + 1, r => by simp only [RelVs] at r; subst r; simp [RelVs]
  | x :: xs, vs, n + 1, r => by
    simp only [RelVs] at r
    obtain ⟨v, vs', rfl, h1, h2⟩ := r
    simpa using RelVs.drop xs vs' n h2
theorem noDup_inj {α : Type} (f : α → Nat) : ∀ (l : List α), noDup (l.map f) = true → ∀ p ∈ l, ∀ q ∈ l, f p = f q → p = q
  | [], _, p, hp, _, _, _ => by cases hp
  | x :: l, h, p, hp, q, hq, e => by
    simp only [List.map_cons, noDup, Bool.and_eq_true, Bool.not_eq_true'] at h
    have hx : f x ∉ l.map f := by have := h.1; simpa using this
    rcases List.mem_cons.1 hp with h1 | h1 <;> rcases List.mem_cons.1 hq with h2 | h2
    · rw [h1, h2]
    · exact absurd (List.mem_map.2 ⟨q, h2, by rw [← e, h1]⟩) hx
    · exact absurd (List.mem_map.2 ⟨p, h1, by rw [e, h2]⟩) hx
    · exact noDup_inj f l h.2 p h1 q h2 e
theorem noDup_get : ∀ (l : List Nat), noDup l = true → ∀ i j (hi : i < l.length) (hj : j < l.length), l[i] = l[j] → i = j
  | [], _, i, j, hi, _, _ => by simp at hi
  | x :: l, h, i, j, hi, hj, e => by
    simp only [noDup, Bool.and_eq_true, Bool.not_eq_true'] at h
    have hx : x ∉ l := by have := h.1; simpa using this
    cases i with
    | zero =>
      cases j with
      | zero => rfl
      | succ j => exact absurd (by simp only [List.getElem_cons_zero, List.getElem_cons_succ] at e; rw [e]; exact List.getElem_mem _) hx
    | succ i =>
      cases j with
      | zero => exact absurd (by simp only [List.getElem_cons_zero, List.getElem_cons_succ] at e; rw [← e]; exact List.getElem_mem _) hx
      | succ j => rw [noDup_get l h.2 i j (by simpa using hi) (by simpa using hj) (by simpa using e)]
def callXF (P : Program) (f : FuncId) (args : List FV) (lk : Nat → Ob) (g : Nat) (h : Hn) : Option Rs :=
  match h with
  | .callX ids outs res H => match P.funcs[f]? with
    | none => none
    | some fn => if fn.body.isSome = true ∧ (fn.name == "runtime.NumGoroutine") = false then
        match unpk (fn.results.size + outs.length) res with
        | none => none
        | some us => match mkOs lk H (outs.map fun t => args.getD t .u) (us.drop fn.results.size) with
          | none => none
          | some os => if noDup ids = true ∧ ids.all (fun id => decide (id < g) && okO ids (lk id)) = true ∧ okRs ids args = true ∧ noDup (os.map (·.1)) = true ∧ noDup (os.map (·.2)) = true ∧ os.all (fun p => ids.contains p.1 && decide (p.2 < H.length)) = true ∧ H.length ≤ 4 then
              some ⟨(pkF (us.take fn.results.size)).ren (rhoX g os), (keysX g ids H.length).map fun k => (k, nhX g os H k), some (SpecX P f (rens (fun id => ids.idxOf id) args) (ids.map fun id => (lk id).ren (fun id => ids.idxOf id)) outs fn.results.size res H)⟩
            else none
      else none
  | _ => none
theorem callX_ok {P : Program} {E : En} {c : Cx} (hi : Inv E c) {lk : Nat → Ob} (hlk : ∀ id, lk id = .free ∨ lk id = look c.hp id) {g : Nat} (hg : ∀ j, j < 4 → look c.hp (g + j) = .free ∧ g + j < c.hp.length) {f : FuncId} {args : List FV} {h : Hn} {rs : Rs} {vs : Array Value}
    (hc : callXF P f args lk g h = some rs) (hob : rs.ob) (r : RelVs c args vs.toList) {R : Value → World → Prop}
    (hK : ∀ v c', Inv E c' → Le c c' → c'.hp = setUps c.hp rs.ups → RelV c' rs.r v → R v c'.w) :
    (∃ fn, P.funcs[f]? = some fn ∧ fn.body.isNone = false ∧ (fn.name == "runtime.NumGoroutine") = false) ∧ Calls P f vs c.w fun e w' => ∃ v, e = .returned v ∧ R v w' := by
  unfold callXF at hc
  split at hc
  case h_2 => cases hc
  rename_i ids outs res H
  split at hc
  case h_1 => cases hc
  rename_i fn hfn
  split at hc
  case isFalse => cases hc
  rename_i hb
  refine ⟨⟨fn, hfn, by simpa using hb.1, hb.2⟩, ?_⟩
  split at hc
  case h_1 => cases hc
  rename_i us hus
  split at hc
  case h_1 => cases hc
  rename_i os hos
  split at hc
  case isFalse => cases hc
  rename_i hck
  obtain ⟨c1, c2, c3, c4, c5, c6, c7⟩ := hck
  simp only [Option.some.injEq] at hc
  subst hc
  have hids : ∀ id ∈ ids, id < g ∧ okO ids (lk id) = true := fun id h => by have := List.all_eq_true.1 c2 id h; simpa using this
  have hlk' : ∀ id ∈ ids, lk id = look c.hp id := fun id h => (hlk id).resolve_left (fun e => by have := (hids id h).2; rw [e] at this; simp [okO] at this)
  obtain ⟨σ, hσ⟩ : ∃ σ : Nat → Nat, σ = fun id => ids.idxOf id := ⟨_, rfl⟩
  obtain ⟨cx, hcx⟩ : ∃ cx : Cx, cx = ⟨c.F, c.w, fun j => c.κ (ids.getD j 0), ids.map fun id => (lk id).ren σ⟩ := ⟨_, rfl⟩
  have hlx : ∀ j (hj : j < ids.length), look cx.hp j = (look c.hp ids[j]).ren σ := fun j hj => by
    rw [hcx]; show List.getD _ j Ob.free = _
    rw [List.getD_eq_getElem?_getD, List.getElem?_map, List.getElem?_eq_getElem hj]
    simp only [Option.map_some, Option.getD_some]
    rw [hlk' _ (List.getElem_mem hj)]
  have hlx' : ∀ j, ids.length ≤ j → look cx.hp j = .free := fun j hj => by
    rw [hcx]; show List.getD _ j Ob.free = _
    rw [List.getD_eq_getElem?_getD, List.getElem?_eq_none (by simpa using hj)]; rfl
  have hkx : ∀ j (hj : j < ids.length), cx.κ j = c.κ ids[j] := fun j hj => by
    rw [hcx]; show c.κ (ids.getD j 0) = _
    rw [List.getD_eq_getElem?_getD, List.getElem?_eq_getElem hj]; rfl
  have hrn : RnS ids σ c cx := by
    refine ⟨fun b h => by rw [hcx]; exact h, fun b _ => by rw [hcx], fun id hid _ => ?_⟩
    have hlt : σ id < ids.length := by rw [hσ]; exact List.idxOf_lt_length_of_mem hid
    have he : ids[σ id] = id := by subst hσ; exact List.getElem_idxOf hlt
    rw [hlx _ hlt, hkx _ hlt, he]
    exact ⟨rfl, rfl⟩
  have hargs : RelVs cx (rens σ args) vs.toList := RelVs.renS hrn args _ c3 r
  have hw : cx.w = c.w := by rw [hcx]
  have hF : cx.F = c.F := by rw [hcx]
  have hinv : Inv ⟨c.w, c.F, fun b => ∃ id, id ∈ ids ∧ (look c.hp id).mut = true ∧ blk (c.κ id) = some b, fun _ _ => False⟩ cx := by
    have hmt : ∀ j b, (look cx.hp j).mut = true → blk (cx.κ j) = some b → ∃ hj : j < ids.length, (look c.hp ids[j]).mut = true ∧ blk (c.κ ids[j]) = some b := by
      intro j b h1 h2
      rcases Nat.lt_or_ge j ids.length with hj | hj
      · rw [hlx j hj, mut_ren] at h1; rw [hkx j hj] at h2; exact ⟨hj, h1, h2⟩
      · rw [hlx' j hj] at h1; simp [Ob.mut] at h1
    refine ⟨by rw [hw]; exact Chg.refl _ _, fun b hb => by rw [hF]; exact hb, fun b hb => .inl (by rw [hF] at hb; exact hb), fun b hb => by rw [hF] at hb; rw [hw]; exact hi.lt b hb, fun j => ?_, fun i j b h1 h2 h3 h4 => ?_, fun i b h1 h2 => ?_⟩
    · rcases Nat.lt_or_ge j ids.length with hj | hj
      · rw [hlx j hj, hkx j hj]
        have hm := List.getElem_mem hj
        refine RelO.renS hrn hw hF ?_ (hi.objs _)
        rw [← hlk' _ hm]; exact (hids _ hm).2
      · rw [hlx' j hj]; trivial
    · obtain ⟨hi', a1, a2⟩ := hmt i b h1 h3
      obtain ⟨hj', b1, b2⟩ := hmt j b h2 h4
      exact noDup_get ids c1 i j hi' hj' (hi.inj _ _ b a1 b1 a2 b2)
    · obtain ⟨hi', a1, a2⟩ := hmt i b h1 h2
      exact .inl ⟨_, List.getElem_mem hi', a1, a2⟩
  have hspec : SpecX P f (rens σ args) cx.hp outs fn.results.size res H := by
    have : Rs.ob ⟨_, _, some _⟩ := hob
    simp only [Rs.ob] at this
    rw [hcx, hσ]; exact this
  have hcall := hspec _ c.w c.F cx.κ vs (by have := hinv; rw [hcx] at this ⊢; exact this) (by have := hargs; rw [hcx] at this ⊢; exact this)
  refine hcall.mono fun e w' ⟨rl, F', κ', hrl, he, hI, hv⟩ => ⟨pk rl, he, ?_⟩
  have hall : RelVs ⟨F', w', κ', H⟩ us (rl ++ outs.map fun t => vs.getD t undef) := unpk_ok hus (by simp [hrl]) hv
  have hres : RelVs ⟨F', w', κ', H⟩ (us.take fn.results.size) rl := by
    have := RelVs.take _ _ fn.results.size hall
    rwa [List.take_left' hrl] at this
  have hout : RelVs ⟨F', w', κ', H⟩ (us.drop fn.results.size) (outs.map fun t => vs.getD t undef) := by
    have := RelVs.drop _ _ fn.results.size hall
    rwa [List.drop_left' hrl] at this
  have hain : RelVs c (outs.map fun t => args.getD t .u) (outs.map fun t => vs.getD t undef) := by
    have : ∀ l : List Nat, RelVs c (l.map fun t => args.getD t .u) (l.map fun t => vs.getD t undef) := by
      intro l
      induction l with
      | nil => simp [RelVs]
      | cons t l ih => simp only [List.map_cons, RelVs]; exact ⟨_, _, rfl, relV_val (a := { tmps := vs, defers := [] }) r (.tmp t), ih⟩
    exact this outs
  have hosk := mkOs_ok (c' := ⟨F', w', κ', H⟩) hlk (rhoX g os) _ _ _ os hos hain hout
  have hos6 : ∀ p ∈ os, p.1 ∈ ids ∧ p.2 < H.length := fun p hp => by have := List.all_eq_true.1 c6 p hp; simpa using this
  obtain ⟨κ2, i2, l2, rn⟩ := after_callX (g := g) hi hI (fun id h => (hids id h).1) (fun p hp => ⟨(hos6 p hp).1, (hos6 p hp).2, (hosk p hp).1, (hosk p hp).2⟩) (noDup_inj _ os c4) (noDup_inj _ os c5) (fun j hj => (hg j (by omega)).1) (by
    by_cases hz : H.length = 0
    · have := (hg 0 (by omega)).2; omega
    · have := (hg (H.length - 1) (by omega)).2; omega)
  exact hK (pk rl) ⟨F', w', κ2, _⟩ i2 l2 rfl (RelV.ren rn _ _ (pkF_ok hres))
end Go.Proofs.YtjhnpaenhdbhpacV
