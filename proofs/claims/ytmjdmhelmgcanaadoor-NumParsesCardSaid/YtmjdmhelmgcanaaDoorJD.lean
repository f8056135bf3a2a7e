/- Joined out of smaller texts: Eval, EvalB, EvalC, EvalD, EvalE, EvalF, EvalG, EvalH, EvalI. -/
import Derived.Test.YtmjdmhelmgcanaaDoorJA
import Derived.Still
/- An evaluation of straight Go code over numbers of 256 bits, and the proof that what it comes to is what the code does (in whatever order Go leaves open): values. -/
namespace Go.Proofs.YtmjdmhelmgcanaaDoor
open Go.RowKit

/-- A part of a value: a number of n parts of 64 bits, an integer, .. 'obj': a value that came in, or that a call made, of a kind. -/
inductive At (K : Type) where
  | big (n x : Nat)
  | lit (k : IntKind) (n : Int)
  | int (k : IntKind) (n : Int)
  | bool (b : Bool)
  | ptr (id off : Nat)
  | obj (id : Nat) (k : K)
  | fn (f : Nat)
  | str (s : ByteArray)

/-- A value; several results. -/
inductive SV (K : Type) where
  | one (l : List (At K))
  | tup (l : List (List (At K)))

/-- Which block an own variable is, which value an 'obj' is. -/
structure Env where
  b : Nat → Nat
  v : Nat → Value

def limbs (x : Nat) : Nat → List Value
  | 0 => []
  | n + 1 => limbs x n ++ [.int .u64 (lm x n)]

theorem limbs_length (x n : Nat) : (limbs x n).length = n := by
  induction n with
  | zero => rfl
  | succ n ih => simp [limbs, ih]

variable {K : Type}

def At.size : At K → Nat
  | .big n _ => n
  | _ => 1

def At.val (ρ : Env) : At K → Value
  | .big n x => .agg (limbs x n).toArray
  | .lit k n => .int k n
  | .int k n => .int k n
  | .bool b => .bool b
  | .ptr id off => .pointer (some ⟨ρ.b id, off, none⟩)
  | .obj id _ => ρ.v id
  | .fn f => .func (.func f) #[] #[]
  | .str s => .string s

def At.cells (ρ : Env) : At K → List Value
  | .big n x => limbs x n
  | a => [a.val ρ]

theorem At.cells_length (ρ : Env) (a : At K) : (a.cells ρ).length = a.size := by cases a <;> simp [At.cells, At.size, limbs_length]

def cellsL (ρ : Env) (l : List (At K)) : List Value := l.flatMap (At.cells ρ)
def sizeL : List (At K) → Nat
  | [] => 0
  | a :: l => a.size + sizeL l

theorem cellsL_nil (ρ : Env) : cellsL ρ ([] : List (At K)) = [] := rfl
theorem cellsL_cons (ρ : Env) (a : At K) (l : List (At K)) : cellsL ρ (a :: l) = a.cells ρ ++ cellsL ρ l := by simp [cellsL]
theorem cellsL_append (ρ : Env) (l m : List (At K)) : cellsL ρ (l ++ m) = cellsL ρ l ++ cellsL ρ m := by simp [cellsL]
theorem cellsL_length (ρ : Env) (l : List (At K)) : (cellsL ρ l).length = sizeL l := by
  induction l with
  | nil => rfl
  | cons a l ih => simp [cellsL_cons, sizeL, At.cells_length, ih]

/-- does this list stand for a struct or an array? -/
def isAggL : List (At K) → Bool
  | [.big _ _] => true
  | [_] => false
  | _ => true

def denL (ρ : Env) : List (At K) → Value
  | [.big n x] => .agg (limbs x n).toArray
  | [a] => a.val ρ
  | l => .agg (cellsL ρ l).toArray

def SV.den (ρ : Env) : SV K → Value
  | .one l => denL ρ l
  | .tup l => .tuple (l.map (denL ρ)).toArray

theorem denL_agg (ρ : Env) {l : List (At K)} (h : isAggL l = true) : denL ρ l = .agg (cellsL ρ l).toArray := by
  unfold denL
  split
  · simp [cellsL, At.cells]
  · rename_i a hb
    cases a <;> simp_all [isAggL]
  · rfl

theorem denL_one (ρ : Env) {l : List (At K)} (h : isAggL l = false) : ∃ a, l = [a] ∧ denL ρ l = a.val ρ ∧ cellsL ρ l = [a.val ρ] ∧ a.size = 1 := by
  cases l with
  | nil => simp [isAggL] at h
  | cons a m =>
    cases m with
    | nil =>
      refine ⟨a, rfl, ?_⟩
      cases a <;> simp_all [isAggL, denL, cellsL, At.cells, At.size]
    | cons b m => cases a <;> simp [isAggL] at h

/-- the first n cells, in whole parts -/
def takeC : List (At K) → Nat → Option (List (At K))
  | _, 0 => some []
  | [], _ + 1 => none
  | a :: l, n + 1 => if a.size ≤ n + 1 then (takeC l (n + 1 - a.size)).map (a :: ·) else none
/-- what is behind the first n cells -/
def dropC : List (At K) → Nat → Option (List (At K))
  | l, 0 => some l
  | [], _ + 1 => none
  | a :: l, n + 1 => if a.size ≤ n + 1 then dropC l (n + 1 - a.size) else none

theorem takeC_spec (ρ : Env) : ∀ (l : List (At K)) (n : Nat) (t : List (At K)), takeC l n = some t → ∃ r, cellsL ρ l = cellsL ρ t ++ r ∧ sizeL t = n ∧ ∀ a ∈ t, a ∈ l
  | l, 0, t, h => by
    simp only [takeC, Option.some.injEq] at h
    subst h
    exact ⟨_, rfl, rfl, by simp⟩
  | [], n + 1, t, h => by simp [takeC] at h
  | a :: l, n + 1, t, h => by
    simp only [takeC] at h
    split at h
    · rename_i hle
      obtain ⟨t', ht, rfl⟩ := Option.map_eq_some_iff.1 h
      obtain ⟨r, hr, hs, hm⟩ := takeC_spec ρ l _ t' ht
      refine ⟨r, by rw [cellsL_cons, cellsL_cons, hr, List.append_assoc], by simp only [sizeL]; omega, ?_⟩
      intro b hb
      rcases List.mem_cons.1 hb with rfl | hb
      · exact List.mem_cons_self
      · exact List.mem_cons_of_mem _ (hm b hb)
    · cases h

theorem dropC_spec (ρ : Env) : ∀ (l : List (At K)) (n : Nat) (d : List (At K)), dropC l n = some d → ∃ p, cellsL ρ l = p ++ cellsL ρ d ∧ p.length = n ∧ ∀ a ∈ d, a ∈ l
  | l, 0, d, h => by
    have : l = d := by cases l <;> simpa [dropC] using h
    subst this
    exact ⟨[], rfl, rfl, fun _ h => h⟩
  | [], n + 1, d, h => by simp [dropC] at h
  | a :: l, n + 1, d, h => by
    simp only [dropC] at h
    split at h
    · rename_i hle
      obtain ⟨p, hp, hs, hm⟩ := dropC_spec ρ l _ d h
      refine ⟨a.cells ρ ++ p, by rw [cellsL_cons, hp, List.append_assoc], by simp only [List.length_append, At.cells_length, hs]; omega, fun b hb => List.mem_cons_of_mem _ (hm b hb)⟩
    · cases h

/-- the part of n cells at a place -/
def partC (l : List (At K)) (off n : Nat) : Option (List (At K)) := (dropC l off).bind fun d => takeC d n

theorem partC_spec (ρ : Env) {l t : List (At K)} {off n : Nat} (h : partC l off n = some t) :
    ∃ p r, cellsL ρ l = p ++ (cellsL ρ t ++ r) ∧ p.length = off ∧ sizeL t = n ∧ ∀ a ∈ t, a ∈ l := by
  obtain ⟨d, hd, ht⟩ := Option.bind_eq_some_iff.1 h
  obtain ⟨p, hp, hpl, hm⟩ := dropC_spec ρ l off d hd
  obtain ⟨r, hr, hs, hm'⟩ := takeC_spec ρ d n t ht
  exact ⟨p, r, by rw [hp, hr], hpl, hs, fun a ha => hm a (hm' a ha)⟩

/-- n cells at a place written over -/
def setC (l : List (At K)) (off : Nat) (new : List (At K)) : Option (List (At K)) :=
  (takeC l off).bind fun p => (dropC l off).bind fun m => (dropC m (sizeL new)).bind fun r => some (p ++ (new ++ r))

theorem setC_spec (ρ : Env) {l new l' : List (At K)} {off : Nat} (h : setC l off new = some l') :
    ∃ p m r, cellsL ρ l = p ++ (m ++ r) ∧ cellsL ρ l' = p ++ (cellsL ρ new ++ r) ∧ p.length = off ∧ m.length = sizeL new ∧ ∀ a ∈ l', a ∈ l ∨ a ∈ new := by
  obtain ⟨p, hp, h⟩ := Option.bind_eq_some_iff.1 h
  obtain ⟨m, hm, h⟩ := Option.bind_eq_some_iff.1 h
  obtain ⟨r, hr, h⟩ := Option.bind_eq_some_iff.1 h
  simp only [Option.some.injEq] at h
  subst h
  obtain ⟨r1, h1, s1, m1⟩ := takeC_spec ρ _ _ _ hp
  obtain ⟨p2, h2, l2, m2⟩ := dropC_spec ρ _ _ _ hm
  obtain ⟨p3, h3, l3, m3⟩ := dropC_spec ρ _ _ _ hr
  have hp2 : p2 = cellsL ρ p := by
    have h4 : (cellsL ρ l).take off = cellsL ρ p := by
      rw [h1, List.take_append_of_le_length (by rw [cellsL_length]; omega), List.take_of_length_le (by rw [cellsL_length]; omega)]
    rw [← h4, h2, List.take_append_of_le_length (by omega), List.take_of_length_le (by omega)]
  refine ⟨cellsL ρ p, p3, cellsL ρ r, by rw [h2, hp2, h3], by rw [cellsL_append, cellsL_append], by rw [cellsL_length]; omega, l3, ?_⟩
  intro a ha
  rcases List.mem_append.1 ha with ha | ha
  · exact .inl (m1 a ha)
  · rcases List.mem_append.1 ha with ha | ha
    · exact .inr ha
    · exact .inl (m2 a (m3 a ha))

/-- the names of own variables and of things are among these -/
def At.inD (dom : Nat → Bool) : At K → Prop
  | .ptr id _ => dom id = true
  | .obj id _ => dom id = true
  | _ => True

theorem At.cells_congr {ρ ρ' : Env} {dom : Nat → Bool} (hb : ∀ i, dom i = true → ρ'.b i = ρ.b i) (hv : ∀ i, dom i = true → ρ'.v i = ρ.v i) {a : At K} (h : a.inD dom) :
    a.val ρ' = a.val ρ ∧ a.cells ρ' = a.cells ρ := by
  cases a <;> simp_all [At.val, At.cells, At.inD]

theorem cellsL_congr {ρ ρ' : Env} {dom : Nat → Bool} (hb : ∀ i, dom i = true → ρ'.b i = ρ.b i) (hv : ∀ i, dom i = true → ρ'.v i = ρ.v i) {l : List (At K)} (h : ∀ a ∈ l, a.inD dom) :
    cellsL ρ' l = cellsL ρ l := by
  induction l with
  | nil => rfl
  | cons a l ih => rw [cellsL_cons, cellsL_cons, (At.cells_congr hb hv (h a List.mem_cons_self)).2, ih fun b hb' => h b (List.mem_cons_of_mem _ hb')]

theorem denL_congr {ρ ρ' : Env} {dom : Nat → Bool} (hb : ∀ i, dom i = true → ρ'.b i = ρ.b i) (hv : ∀ i, dom i = true → ρ'.v i = ρ.v i) {l : List (At K)} (h : ∀ a ∈ l, a.inD dom) :
    denL ρ' l = denL ρ l := by
  cases ha : isAggL l with
  | true => rw [denL_agg _ ha, denL_agg _ ha, cellsL_congr hb hv h]
  | false =>
    obtain ⟨a, rfl, h1, _, _⟩ := denL_one ρ' ha
    obtain ⟨a', he, h2, _, _⟩ := denL_one ρ ha
    obtain rfl : a = a' := by simpa using he
    rw [h1, h2, (At.cells_congr hb hv (h a List.mem_cons_self)).1]

def SV.all (p : At K → Prop) : SV K → Prop
  | .one l => ∀ a ∈ l, p a
  | .tup l => ∀ m ∈ l, ∀ a ∈ m, p a

theorem SV.den_congr {ρ ρ' : Env} {dom : Nat → Bool} (hb : ∀ i, dom i = true → ρ'.b i = ρ.b i) (hv : ∀ i, dom i = true → ρ'.v i = ρ.v i) {s : SV K} (h : s.all (At.inD dom)) :
    s.den ρ' = s.den ρ := by
  cases s with
  | one l => exact denL_congr hb hv h
  | tup l =>
    simp only [SV.den]
    congr 2
    exact List.map_congr_left fun m hm => denL_congr hb hv (h m hm)

theorem SV.all_mono {p q : At K → Prop} (h : ∀ a, p a → q a) {s : SV K} (hs : s.all p) : s.all q := by
  cases s with
  | one l => exact fun a ha => h a (hs a ha)
  | tup l => exact fun m hm a ha => h a (hs m hm a ha)

end Go.Proofs.YtmjdmhelmgcanaaDoor

/- An evaluation of straight Go code: the state, and how it stands to a frame and a world. -/
namespace Go.Proofs.YtmjdmhelmgcanaaDoor
open Go.RowKit
variable {K : Type}

def upd {α : Type} (f : Nat → α) (i : Nat) (x : α) : Nat → α := fun j => bif Nat.beq j i then x else f j
theorem upd_same {α : Type} (f : Nat → α) (i : Nat) (x : α) : upd f i x i = x := by simp [upd]
theorem upd_ne {α : Type} (f : Nat → α) {i j : Nat} (x : α) (h : j ≠ i) : upd f i x j = f j := by
  have h'' : Nat.beq j i = false := by
    cases hb : Nat.beq j i with
    | false => rfl
    | true => exact absurd (Nat.eq_of_beq_eq_true hb) h
  simp only [upd, h'', cond_false]
theorem upd_comm {α : Type} (f : Nat → α) {i j : Nat} (x y : α) (h : i ≠ j) : upd (upd f i x) j y = upd (upd f j y) i x := by
  funext k
  by_cases hi : k = i
  · subst hi; rw [upd_ne _ _ h, upd_same, upd_same]
  · by_cases hj : k = j
    · subst hj; rw [upd_same, upd_ne _ _ hi, upd_same]
    · rw [upd_ne _ _ hj, upd_ne _ _ hi, upd_ne _ _ hi, upd_ne _ _ hj]

structure St (K : Type) where
  slots : Nat → SV K
  heap : Nat → Option (List (At K) × TypeId)
  dom : Nat → Bool

/-- one way in which a call may end: when, and with what -/
structure Outc (K : Type) where
  c : Prop
  r : Nat → SV K

/-- What the evaluation knows of the program. -/
structure Ctx (K : Type) where
  nt : Nat
  size : TypeId → Option Nat
  agg : TypeId → Bool
  boolT : TypeId → Bool
  sliceT : TypeId → Bool
  zero : TypeId → Option (List (At K))
  fld : TypeId → Nat → Option (Nat × TypeId)
  build : TypeId → List (Nat × SV K) → Option (List (At K))
  eqT : TypeId → List (At K) → List (At K) → Option Prop
  conv : TypeId → TypeId → IntKind → Option IntKind
  con : FuncId → List (SV K) → Option (List (Outc K))
  inv : K → Value → World → Prop
  len : K → Nat

def pw (n : Nat) : Nat := 18446744073709551616 ^ n
theorem pw4 : pw 4 = TOP := by decide

/-- what is known of a part -/
def AtOK (C : Ctx K) (σ : St K) (ρ : Env) (w : World) : At K → Prop
  | .big n x => x < pw n
  | .ptr id _ => σ.dom id = true ∧ (σ.heap id).isSome = true
  | .obj id k => σ.dom id = true ∧ C.inv k (ρ.v id) w ∧ ∀ b, (ρ.v id).ownBlock = some b → b < w.heap.size ∧ ∀ i, (σ.heap i).isSome = true → ρ.b i ≠ b
  | _ => True

structure Rep (C : Ctx K) (w0 : World) (ρ : Env) (σ : St K) (a : Act) (w : World) : Prop where
  size : a.tmps.size = C.nt
  defers : a.defers = []
  slots : ∀ i, i < C.nt → a.eval (.tmp i) = (σ.slots i).den ρ
  below : Below w0.heap.size w0 w
  cells : ∀ id l t, σ.heap id = some (l, t) → w0.heap.size ≤ ρ.b id ∧ w.heap[ρ.b id]? = some (.cells (cellsL ρ l).toArray t (0, 0))
  inj : ∀ i j, (σ.heap i).isSome = true → (σ.heap j).isSome = true → ρ.b i = ρ.b j → i = j
  okS : ∀ i, (σ.slots i).all (AtOK C σ ρ w)
  okH : ∀ id l t, σ.heap id = some (l, t) → ∀ a ∈ l, AtOK C σ ρ w a
  hdom : ∀ id, (σ.heap id).isSome = true → σ.dom id = true

/-- what must be true of the evaluation's knowledge -/
structure CtxInv (C : Ctx K) : Prop where
  stable : ∀ k v w w', C.inv k v w → (∀ b, v.ownBlock = some b → w'.heap[b]? = w.heap[b]?) → C.inv k v w'
  cell : ∀ k v w, C.inv k v w → ∃ a n c, v = .slice a n c

variable {C : Ctx K} {σ σ' : St K} {ρ ρ' : Env} {w0 w w' : World} {a : Act}

theorem AtOK.inD {x : At K} (h : AtOK C σ ρ w x) : x.inD σ.dom := by
  cases x <;> simp_all [AtOK, At.inD]

/-- what is known stays known -/
theorem AtOK.mono (I : CtxInv C) {x : At K} (h : AtOK C σ ρ w x) (hd : ∀ i, σ.dom i = true → σ'.dom i = true) (hh : ∀ i, (σ.heap i).isSome = true → (σ'.heap i).isSome = true)
    (hv : ∀ i, σ.dom i = true → ρ'.v i = ρ.v i) (hsz : w.heap.size ≤ w'.heap.size)
    (hw : ∀ b, b < w.heap.size → (∀ i, (σ.heap i).isSome = true → ρ.b i ≠ b) → w'.heap[b]? = w.heap[b]?)
    (hb : ∀ i, (σ'.heap i).isSome = true → ((σ.heap i).isSome = true ∧ ρ'.b i = ρ.b i) ∨ w.heap.size ≤ ρ'.b i) : AtOK C σ' ρ' w' x := by
  cases x with
  | big n x => exact h
  | ptr id off => exact ⟨hd _ h.1, hh _ h.2⟩
  | obj id k =>
    obtain ⟨h1, h2, h3⟩ := h
    refine ⟨hd _ h1, ?_, ?_⟩
    · rw [hv _ h1]
      exact I.stable _ _ _ _ h2 fun b hb => hw b (h3 b hb).1 (h3 b hb).2
    · intro b hbb
      rw [hv _ h1] at hbb
      obtain ⟨h4, h5⟩ := h3 b hbb
      refine ⟨Nat.lt_of_lt_of_le h4 hsz, fun i hi => ?_⟩
      rcases hb i hi with ⟨h6, h7⟩ | h6
      · rw [h7]; exact h5 i h6
      · omega
  | lit k n => trivial
  | int k n => trivial
  | bool b => trivial
  | fn f => trivial
  | str s => trivial

theorem AtOK.oneCell (I : CtxInv C) {x : At K} (h : AtOK C σ ρ w x) : ∀ u ∈ x.cells ρ, u.oneCell' = true := by
  cases x with
  | big n x =>
    simp only [At.cells]
    clear h
    induction n with
    | zero => simp [limbs]
    | succ n ih =>
      intro u hu
      simp only [limbs, List.mem_append, List.mem_singleton] at hu
      rcases hu with hu | rfl
      · exact ih u hu
      · rfl
  | obj id k =>
    obtain ⟨a, n, c, hc⟩ := I.cell _ _ _ h.2.1
    intro u hu
    simp only [At.cells, At.val, List.mem_singleton] at hu
    subst hu
    rw [hc]; rfl
  | _ => intro u hu; simp only [At.cells, At.val, List.mem_singleton] at hu; subst hu; rfl

theorem cellsL_oneCell (I : CtxInv C) {l : List (At K)} (h : ∀ a ∈ l, AtOK C σ ρ w a) : ∀ u ∈ cellsL ρ l, u.oneCell' = true := by
  intro u hu
  simp only [cellsL, List.mem_flatMap] at hu
  obtain ⟨a, ha, hu⟩ := hu
  exact (h a ha).oneCell I u hu

/-- a slot is written -/
def putS (d : Option Nat) (v : SV K) (σ : St K) : St K :=
  match d with
  | some d => { σ with slots := upd σ.slots d v }
  | none => σ

theorem putS_heap (d : Option Nat) (v : SV K) (σ : St K) : (putS d v σ).heap = σ.heap := by cases d <;> rfl
theorem putS_dom (d : Option Nat) (v : SV K) (σ : St K) : (putS d v σ).dom = σ.dom := by cases d <;> rfl

def dstIn (nt : Nat) : Option Nat → Prop
  | some d => d < nt
  | none => True

theorem eval_put_same {a : Act} {d : Nat} (v : Value) (h : d < a.tmps.size) : (a.put (some d) v).eval (.tmp d) = v := by
  simp [Act.eval, Act.put, h]
theorem eval_put_ne {a : Act} {d i : Nat} (v : Value) (h : i ≠ d) : (a.put (some d) v).eval (.tmp i) = a.eval (.tmp i) := by
  have h' : d ≠ i := fun e => h e.symm
  simp [Act.eval, Act.put, Array.getElem?_setIfInBounds_ne h']

theorem AtOK.slotFree {x : At K} {d : Option Nat} {v : SV K} : AtOK C (putS d v σ) ρ w x ↔ AtOK C σ ρ w x := by
  cases x <;> simp [AtOK, putS_heap, putS_dom]

/-- a slot is written, no more -/
theorem Rep.put (h : Rep C w0 ρ σ a w) {d : Option Nat} (hd : dstIn C.nt d) {v : SV K} (hv : v.all (AtOK C σ ρ w)) : Rep C w0 ρ (putS d v σ) (a.put d (v.den ρ)) w := by
  cases d with
  | none => exact h
  | some d =>
    have hd' : d < a.tmps.size := by rw [h.size]; exact hd
    refine ⟨by simp [Act.put, h.size], h.defers, ?_, h.below, h.cells, h.inj, ?_, ?_, h.hdom⟩
    · intro i hi
      by_cases hid : i = d
      · subst hid; rw [eval_put_same _ hd']; simp [putS, upd_same]
      · rw [eval_put_ne _ hid]; simp only [putS]; rw [upd_ne _ _ hid]; exact h.slots i hi
    · intro i
      refine SV.all_mono (p := AtOK C σ ρ w) (fun a ha => AtOK.slotFree.2 ha) ?_
      by_cases hid : i = d
      · subst hid; simp only [putS, upd_same]; exact hv
      · simp only [putS, upd_ne _ _ hid]; exact h.okS i
    · intro id l t hl a ha
      exact AtOK.slotFree.2 (h.okH id l t hl a ha)

theorem heap_push_old (w : World) (o : Obj) {b : Nat} (h : b < w.heap.size) : (w.alloc o).heap[b]? = w.heap[b]? := Below.heap_alloc w o b h

/-- a variable comes, or none -/
def newH (hp : Option (List (At K) × TypeId)) (d : Nat) (h : Nat → Option (List (At K) × TypeId)) : Nat → Option (List (At K) × TypeId) :=
  match hp with
  | some x => upd h d (some x)
  | none => h

/-- what is known of a state stays known when the world goes on and names come -/
theorem Rep.goes (I : CtxInv C) (h : Rep C w0 ρ σ a w) {d : Nat} (hfree : σ.dom d = false) {ρ' : Env} {w' : World}
    (hb : ∀ i, i ≠ d → ρ'.b i = ρ.b i) (hv : ∀ i, i ≠ d → ρ'.v i = ρ.v i)
    (hold : ∀ b, b < w.heap.size → w'.heap[b]? = w.heap[b]?) (hsz : w.heap.size ≤ w'.heap.size) (hos : w'.os = w.os) (htape : w'.tape = w.tape) (hout : w'.output = w.output)
    (hp : Option (List (At K) × TypeId))
    (hnew : ∀ l t, hp = some (l, t) → w.heap.size ≤ ρ'.b d ∧ w'.heap[ρ'.b d]? = some (.cells (cellsL ρ l).toArray t (0, 0)) ∧ ∀ a ∈ l, AtOK C σ ρ w a) :
    Rep C w0 ρ' { σ with heap := newH hp d σ.heap, dom := upd σ.dom d true } a w' ∧
    ∀ x, AtOK C σ ρ w x → AtOK C { σ with heap := newH hp d σ.heap, dom := upd σ.dom d true } ρ' w' x := by
  have hhd : σ.heap d = none := by
    cases hx : σ.heap d with
    | none => rfl
    | some y => have := h.hdom d (by rw [hx]; rfl); rw [hfree] at this; cases this
  have hne : ∀ i, σ.dom i = true → i ≠ d := fun i hi e => by subst e; rw [hfree] at hi; cases hi
  have hb' : ∀ i, σ.dom i = true → ρ'.b i = ρ.b i := fun i hi => hb i (hne i hi)
  have hv' : ∀ i, σ.dom i = true → ρ'.v i = ρ.v i := fun i hi => hv i (hne i hi)
  have hlt : ∀ id l t, σ.heap id = some (l, t) → ρ.b id < w.heap.size := fun id l t hl => (Array.getElem?_eq_some_iff.1 (h.cells id l t hl).2).1
  -- the new heap
  have hheap : ∀ i, i ≠ d → newH hp d σ.heap i = σ.heap i := by
    intro i hi
    cases hp with
    | none => rfl
    | some x => exact upd_ne _ _ hi
  have hmono : ∀ x, AtOK C σ ρ w x → AtOK C { σ with heap := newH hp d σ.heap, dom := upd σ.dom d true } ρ' w' x := by
    intro x hx
    refine hx.mono I ?_ ?_ hv' hsz (fun b hb _ => hold b hb) ?_
    · intro i hi
      show upd σ.dom d true i = true
      by_cases hid : i = d
      · subst hid; exact upd_same _ _ _
      · rw [upd_ne _ _ hid]; exact hi
    · intro i hi
      have hid : i ≠ d := fun e => by subst e; rw [hhd] at hi; cases hi
      show (newH hp d σ.heap i).isSome = true
      rw [hheap i hid]; exact hi
    · intro i hi
      by_cases hid : i = d
      · subst hid
        cases hp with
        | none => simp only [newH, hhd] at hi; cases hi
        | some x => exact .inr (hnew x.1 x.2 rfl).1
      · have hi' : (σ.heap i).isSome = true := by
          have := hi
          simp only [] at this
          rw [hheap i hid] at this
          exact this
        exact .inl ⟨hi', hb i hid⟩
  refine ⟨⟨h.size, h.defers, ?_, ?_, ?_, ?_, ?_, ?_, ?_⟩, hmono⟩
  · intro i hi
    rw [h.slots i hi]
    exact (SV.den_congr hb' hv' (SV.all_mono (fun _ => AtOK.inD) (h.okS i))).symm
  · exact h.below.trans ⟨hos, htape, hout, hsz, fun k hk => hold k (Nat.lt_of_lt_of_le hk h.below.size)⟩
  · intro id l t hl
    by_cases hid : id = d
    · subst hid
      cases hp with
      | none => simp only [newH, hhd] at hl; cases hl
      | some x =>
        simp only [newH, upd_same, Option.some.injEq] at hl
        subst hl
        obtain ⟨h1, h2, h3⟩ := hnew l t rfl
        refine ⟨Nat.le_trans h.below.size h1, ?_⟩
        rw [cellsL_congr hb' hv' fun a ha => (h3 a ha).inD]
        exact h2
    · simp only [] at hl
      rw [hheap id hid] at hl
      obtain ⟨h1, h2⟩ := h.cells id l t hl
      rw [hb id hid, cellsL_congr hb' hv' fun a ha => (h.okH id l t hl a ha).inD, hold _ (hlt id l t hl)]
      exact ⟨h1, h2⟩
  · intro i j hi hj hij
    simp only [] at hi hj
    have old : ∀ i, i ≠ d → (newH hp d σ.heap i).isSome = true → (σ.heap i).isSome = true ∧ ρ'.b i < w.heap.size := by
      intro i hid hi
      rw [hheap i hid] at hi
      refine ⟨hi, ?_⟩
      obtain ⟨⟨l, t⟩, hl⟩ := Option.isSome_iff_exists.1 hi
      rw [hb i hid]
      exact hlt i l t hl
    have new : (newH hp d σ.heap d).isSome = true → w.heap.size ≤ ρ'.b d := by
      intro hi
      cases hp with
      | none => simp only [newH, hhd] at hi; cases hi
      | some x => exact (hnew x.1 x.2 rfl).1
    by_cases hid : i = d
    · by_cases hjd : j = d
      · rw [hid, hjd]
      · subst hid
        have h1 := new hi
        have h2 := (old j hjd hj).2
        omega
    · by_cases hjd : j = d
      · subst hjd
        have h1 := new hj
        have h2 := (old i hid hi).2
        omega
      · rw [hb i hid, hb j hjd] at hij
        exact h.inj i j (old i hid hi).1 (old j hjd hj).1 hij
  · intro i
    exact SV.all_mono hmono (h.okS i)
  · intro id l t hl x hx
    by_cases hid : id = d
    · subst hid
      cases hp with
      | none => simp only [newH, hhd] at hl; cases hl
      | some y =>
        simp only [newH, upd_same, Option.some.injEq] at hl
        subst hl
        exact hmono x ((hnew l t rfl).2.2 x hx)
    · simp only [] at hl
      rw [hheap id hid] at hl
      exact hmono x (h.okH id l t hl x hx)
  · intro id hi
    show upd σ.dom d true id = true
    by_cases hid : id = d
    · subst hid; exact upd_same _ _ _
    · rw [upd_ne _ _ hid]
      simp only [] at hi
      rw [hheap id hid] at hi
      exact h.hdom id hi

end Go.Proofs.YtmjdmhelmgcanaaDoor

/- An evaluation of straight Go code: one operation. -/
namespace Go.Proofs.YtmjdmhelmgcanaaDoor
open Go.RowKit
variable {K : Type}

def valsOf (nt : Nat) (slots : Nat → SV K) : Operand → Option (SV K)
  | .tmp t => bif Nat.blt t nt then some (slots t) else none
  | .const (.int k n) => some (.one [.lit k n])
  | .const (.bool b) => some (.one [.bool b])
  | .const (.string s) => some (.one [.str s])
  | .func f => some (.one [.fn f])
  | _ => none

def allVals (nt : Nat) (slots : Nat → SV K) : List Operand → Option (List (SV K))
  | [] => some []
  | x :: r => (valsOf nt slots x).bind fun v => (allVals nt slots r).map fun vs => v :: vs

def allParts (nt : Nat) (slots : Nat → SV K) : List (Nat × Operand) → Option (List (Nat × SV K))
  | [] => some []
  | (i, x) :: r => (valsOf nt slots x).bind fun v => (allParts nt slots r).map fun vs => (i, v) :: vs

def boolS : SV K → Option Bool
  | .one [.bool b] => some b
  | _ => none
def litS : SV K → Option (IntKind × Int)
  | .one [.lit k n] => some (k, n)
  | _ => none
def intS : SV K → Option (IntKind × Int)
  | .one [.lit k n] => some (k, n)
  | .one [.int k n] => some (k, n)
  | _ => none
def ptrS : SV K → Option (Nat × Nat)
  | .one [.ptr id off] => some (id, off)
  | _ => none
def oneS : SV K → Option (List (At K))
  | .one l => some l
  | _ => none

def pickP (p : Prop) : Nat → Prop × Bool
  | 0 => (p, true)
  | _ => (¬ p, false)
theorem pickP_spec {p : Prop} {k : Nat} (h : (pickP p k).1) : p ↔ (pickP p k).2 = true := by
  cases k with
  | zero => exact ⟨fun _ => rfl, fun _ => h⟩
  | succ k => exact ⟨fun hp => absurd hp h, fun e => by cases e⟩

def cmpP (op : BinOp) (a b : Int) : Option Prop :=
  match op with
  | .eql => some (a = b)
  | .neq => some (a ≠ b)
  | .lss => some (a < b)
  | .leq => some (a ≤ b)
  | .gtr => some (b < a)
  | .geq => some (b ≤ a)
  | _ => none
def litB (op : BinOp) (a b : Int) : Option Bool :=
  match op with
  | .eql => some (decide (a = b))
  | .neq => some (decide (a ≠ b))
  | .lss => some (decide (a < b))
  | .leq => some (decide (a ≤ b))
  | .gtr => some (decide (b < a))
  | .geq => some (decide (b ≤ a))
  | _ => none

theorem run_cmp {op : BinOp} {a b : Int} {p : Prop} (h : cmpP op a b = some p) {r : Bool} (hr : p ↔ r = true) (P : Program) (k : IntKind) (t : TypeId) (w : World) :
    (binOp op t (.int k a) (.int k b)).run P w = .ok (.bool r) w := by
  cases op <;> simp only [cmpP, reduceCtorEq, Option.some.injEq] at h <;> subst h <;> cases r <;> simp_all [binOp, Op.intCmp]

theorem run_lit {op : BinOp} {a b : Int} {r : Bool} (h : litB op a b = some r) (P : Program) (k : IntKind) (t : TypeId) (w : World) :
    (binOp op t (.int k a) (.int k b)).run P w = .ok (.bool r) w := by
  cases op <;> simp only [litB, reduceCtorEq, Option.some.injEq] at h <;> subst h <;> simp [binOp, Op.intCmp] <;> by_cases e : a = b <;> simp [e]

def binR (C : Ctx K) (op : BinOp) (t : TypeId) (x y : SV K) (ch : Nat) : Option (Prop × Bool) :=
  match boolS x, boolS y with
  | some a, some b => bif C.boolT t then (match op with | .eql => some (True, a == b) | .neq => some (True, !(a == b)) | _ => none) else none
  | _, _ =>
  match litS x, litS y with
  | some (k, a), some (k', b) => if k = k' then (litB op a b).map fun r => (True, r) else none
  | _, _ =>
  match intS x, intS y with
  | some (k, a), some (k', b) => if k = k' then (cmpP op a b).map fun p => pickP p ch else none
  | _, _ =>
  match oneS x, oneS y with
  | some l, some m => (C.eqT t l m).bind fun p => (match op with
      | .eql => some (pickP p ch)
      | .neq => some ((pickP p ch).1, !(pickP p ch).2)
      | _ => none)
  | _, _ => none

inductive Eff (K : Type) where
  | none
  | new (id : Nat) (l : List (At K)) (t : TypeId)
  | put (id : Nat) (l : List (At K)) (t : TypeId)
  | own (id : Nat)

def Eff.app (e : Eff K) (σ : St K) : St K :=
  match e with
  | .none => σ
  | .new id l t => { σ with heap := newH (some (l, t)) id σ.heap, dom := upd σ.dom id true }
  | .put id l t => { σ with heap := upd σ.heap id (some (l, t)) }
  | .own id => { σ with heap := newH Option.none id σ.heap, dom := upd σ.dom id true }

/-- What an operation comes to: under which condition, its value, what it does to memory. -/
def res (C : Ctx K) (orc : Nat → Nat) (o : Oper) (slots : Nat → SV K) (heap : Nat → Option (List (At K) × TypeId)) (dom : Nat → Bool) : Option (Prop × SV K × Eff K) :=
  match o.op with
  | .move x => (valsOf C.nt slots x).map fun v => (True, v, .none)
  | .assign x => (valsOf C.nt slots x).map fun v => (True, v, .none)
  | .pick c x y => (valsOf C.nt slots c).bind fun vc => (boolS vc).bind fun b => (valsOf C.nt slots (bif b then x else y)).map fun v => (True, v, .none)
  | .extract x i => (valsOf C.nt slots x).bind fun v => (match v with
      | .tup l => (l[i]?).map fun t => (True, .one t, .none)
      | _ => none)
  | .binOp op t x y _ => (valsOf C.nt slots x).bind fun vx => (valsOf C.nt slots y).bind fun vy => (binR C op t vx vy (orc (o.dst.getD 0))).map fun r => (r.1, .one [.bool r.2], .none)
  | .unOp .not _ x => (valsOf C.nt slots x).bind fun v => (boolS v).map fun b => (True, .one [.bool (!b)], .none)
  | .unOp .neg _ x => (valsOf C.nt slots x).bind fun v => (litS v).bind fun (k, n) => bif decide (k = .i64 ∧ -1000 ≤ n ∧ n ≤ 1000) then some (True, .one [.lit k (0 - n)], .none) else none
  | .load t x => (valsOf C.nt slots x).bind fun v => (ptrS v).bind fun (id, off) => (heap id).bind fun (l, _) => (C.size t).bind fun n => (partC l off n).bind fun m =>
      bif isAggL m == C.agg t then some (True, .one m, .none) else none
  | .store t x y => (valsOf C.nt slots x).bind fun v => (ptrS v).bind fun (id, off) => (heap id).bind fun (l, ty) => (valsOf C.nt slots y).bind fun vy => (oneS vy).bind fun new =>
      (C.size t).bind fun n => bif Nat.beq (sizeL new) n then (setC l off new).map fun l' => (True, .tup [], .put id l' ty) else none
  | .alloc t => o.dst.bind fun d => bif dom d then none else (C.zero t).map fun l => (True, .one [.ptr d 0], .new d l t)
  | .box t x => o.dst.bind fun d => bif dom d then none else (valsOf C.nt slots x).bind fun v => (oneS v).map fun l => (True, .one [.ptr d 0], .new d l t)
  | .fieldAddr s x f => (valsOf C.nt slots x).bind fun v => (ptrS v).bind fun (id, off) => (C.fld s f).map fun (k, _) => (True, .one [.ptr id (off + k)], .none)
  | .field s x f => (valsOf C.nt slots x).bind fun v => (oneS v).bind fun l => (C.fld s f).bind fun (k, t) => (C.size t).bind fun n => (partC l k n).bind fun m =>
      bif isAggL l && (isAggL m == C.agg t) then some (True, .one m, .none) else none
  | .build t parts => (allParts C.nt slots parts.toList).bind fun ps => (C.build t ps).map fun l => (True, .one l, .none)
  | .convert src dst x => (valsOf C.nt slots x).bind fun v => (intS v).bind fun (k, n) => (C.conv src dst k).map fun k' => (0 ≤ n ∧ n < 18446744073709551616, .one [.int k' n], .none)
  | .call { callee := .value f, args, .. } => o.dst.bind fun d => bif dom d then none else (valsOf C.nt slots f).bind fun vf => (match vf with
      | .one [.fn g] => (allVals C.nt slots args.toList).bind fun vs => (C.con g vs).bind fun outs => (outs[orc d]?).map fun oc => (oc.c, oc.r d, .own d)
      | _ => none)
  | .call { callee := .builtin .len, args, argTypes } => (allVals C.nt slots args.toList).bind fun vs => (match vs, argTypes.toList with
      | [.one [.obj _ k]], [t] => bif C.sliceT t then some (True, .one [.int .i64 (C.len k)], .none) else none
      | _, _ => none)
  | _ => none

/-- what is known of a value that has no names in it -/
def AtOK0 : At K → Prop
  | .big n x => x < pw n
  | .ptr _ _ => False
  | .obj _ _ => False
  | _ => True

/-- what a call may be handed -/
def ArgOK (C : Ctx K) (ρ : Env) (w : World) : At K → Prop
  | .big n x => x < pw n
  | .obj id k => C.inv k (ρ.v id) w ∧ ∀ b, (ρ.v id).ownBlock = some b → b < w.heap.size
  | _ => True
/-- what a call hands back -/
def RetOK (C : Ctx K) (d : Nat) (w : World) (v : Value) (w' : World) : At K → Prop
  | .big n x => x < pw n
  | .obj id k => id = d ∧ C.inv k v w' ∧ ∀ b, v.ownBlock = some b → w.heap.size ≤ b ∧ b < w'.heap.size
  | .ptr _ _ => False
  | _ => True

structure CtxOK (P : Program) (C : Ctx K) : Prop extends CtxInv C where
  size : ∀ t n, C.size t = some n → ∀ w, (sizeOf t).run P w = .ok n w
  agg : ∀ t n, C.size t = some n → ∀ w, (isAgg t).run P w = .ok (C.agg t) w
  sliceT : ∀ t, C.sliceT t = true → ∃ e, P.underlying t = some (.slice e)
  boolT : ∀ t, C.boolT t = true → P.underlying t = some .bool
  zero : ∀ t l, C.zero t = some l → (∀ a ∈ l, AtOK0 a) ∧ ∀ ρ w, (zeroValue t).run P w = .ok (denL ρ l) w
  fldA : ∀ s f k t, C.fld s f = some (k, t) → ∀ b off w, (Instr.fieldAt s (.pointer (some ⟨b, off, none⟩)) f).run P w = .ok (.pointer (some ⟨b, off + k, none⟩)) w
  fld : ∀ s f k t n, C.fld s f = some (k, t) → C.size t = some n → ∀ cs w, k + n ≤ cs.size →
    (Instr.field s (.agg cs) f).run P w = .ok (if C.agg t then .agg (cs.extract k (k + n)) else cs.getD k undef) w
  build : ∀ t ps l, C.build t ps = some l → (∀ a ∈ l, AtOK0 a ∨ ∃ p ∈ ps, ∃ m, p.2 = .one m ∧ a ∈ m) ∧
    ∀ ρ w, (Instr.build t (ps.map fun p => (p.1, p.2.den ρ)).toArray).run P w = .ok (denL ρ l) w
  eq : ∀ t l m p, C.eqT t l m = some p → isAggL l = true ∧ isAggL m = true ∧ ∀ ρ, (∀ n x, At.big n x ∈ l → x < pw n) → (∀ n x, At.big n x ∈ m → x < pw n) → ∀ b, (p ↔ b = true) → ∀ w x y,
    (do eqGuard .eql t x y (denL ρ l) (denL ρ m); binOp .eql t (denL ρ l) (denL ρ m)).run P w = .ok (.bool b) w ∧
    (do eqGuard .neq t x y (denL ρ l) (denL ρ m); binOp .neq t (denL ρ l) (denL ρ m)).run P w = .ok (.bool (!b)) w
  conv : ∀ s d k k', C.conv s d k = some k' → ∀ n, 0 ≤ n → n < 18446744073709551616 → ∀ w, (convert s d (.int k n)).run P w = .ok (.int k' n) w
  len : ∀ k v w, C.inv k v w → ∃ a c, v = .slice a (C.len k) c
  con : ∀ f args outs, C.con f args = some outs → ∀ (i : Nat) oc, outs[i]? = some oc → oc.c → ∀ ρ w d, (∀ s ∈ args, s.all (ArgOK C ρ w)) → (∀ s ∈ args, s.all fun a => ∀ k, a ≠ .obj d k) →
    (callFunc f (args.map (SV.den ρ)).toArray).run P w = .ok (.enter f (args.map (SV.den ρ)).toArray) w ∧
    Calls P f (args.map (SV.den ρ)).toArray w fun e w' => Below w.heap.size w w' ∧ ∃ v, e = .returned ((oc.r d).den { ρ with v := upd ρ.v d v }) ∧ (oc.r d).all (RetOK C d w v w')

variable {P : Program} {C : Ctx K} {σ σ' : St K} {ρ ρ' : Env} {w0 w w' : World} {a : Act}

theorem valsOf_spec (h : Rep C w0 ρ σ a w) {x : Operand} {v : SV K} (hv : valsOf C.nt σ.slots x = some v) : a.eval x = v.den ρ ∧ v.all (AtOK C σ ρ w) := by
  unfold valsOf at hv
  split at hv
  · rename_i t
    cases hb : Nat.blt t C.nt with
    | false => rw [hb] at hv; cases hv
    | true =>
      rw [hb] at hv
      simp only [cond_true, Option.some.injEq] at hv
      subst hv
      exact ⟨h.slots t (Nat.le_of_ble_eq_true hb), h.okS t⟩
  all_goals first
    | (simp only [Option.some.injEq] at hv; subst hv; exact ⟨rfl, by simp [SV.all, AtOK]⟩)
    | cases hv

theorem allVals_spec (h : Rep C w0 ρ σ a w) : ∀ (xs : List Operand) (vs : List (SV K)), allVals C.nt σ.slots xs = some vs →
    xs.map a.eval = vs.map (SV.den ρ) ∧ ∀ s ∈ vs, s.all (AtOK C σ ρ w)
  | [], vs, hv => by simp only [allVals, Option.some.injEq] at hv; subst hv; exact ⟨rfl, by simp⟩
  | x :: r, vs, hv => by
    simp only [allVals] at hv
    obtain ⟨v, h1, hv⟩ := Option.bind_eq_some_iff.1 hv
    obtain ⟨vs', h2, rfl⟩ := Option.map_eq_some_iff.1 hv
    obtain ⟨e1, k1⟩ := valsOf_spec h h1
    obtain ⟨e2, k2⟩ := allVals_spec h r vs' h2
    refine ⟨by simp [e1, e2], ?_⟩
    intro s hs
    rcases List.mem_cons.1 hs with rfl | hs
    · exact k1
    · exact k2 s hs

theorem allParts_spec (h : Rep C w0 ρ σ a w) : ∀ (xs : List (Nat × Operand)) (vs : List (Nat × SV K)), allParts C.nt σ.slots xs = some vs →
    xs.map (fun p => (p.1, a.eval p.2)) = vs.map (fun p => (p.1, p.2.den ρ)) ∧ ∀ s ∈ vs, s.2.all (AtOK C σ ρ w)
  | [], vs, hv => by simp only [allParts, Option.some.injEq] at hv; subst hv; exact ⟨rfl, by simp⟩
  | (i, x) :: r, vs, hv => by
    simp only [allParts] at hv
    obtain ⟨v, h1, hv⟩ := Option.bind_eq_some_iff.1 hv
    obtain ⟨vs', h2, rfl⟩ := Option.map_eq_some_iff.1 hv
    obtain ⟨e1, k1⟩ := valsOf_spec h h1
    obtain ⟨e2, k2⟩ := allParts_spec h r vs' h2
    refine ⟨by simp [e1, e2], ?_⟩
    intro s hs
    rcases List.mem_cons.1 hs with rfl | hs
    · exact k1
    · exact k2 s hs

theorem boolS_spec {v : SV K} {b : Bool} (h : boolS v = some b) : v = .one [.bool b] := by
  unfold boolS at h; split at h <;> simp_all
theorem litS_spec {v : SV K} {k : IntKind} {n : Int} (h : litS v = some (k, n)) : v = .one [.lit k n] := by
  unfold litS at h; split at h <;> simp_all
theorem intS_spec {v : SV K} {k : IntKind} {n : Int} (h : intS v = some (k, n)) : ∀ ρ, v.den ρ = .int k n := by
  unfold intS at h; split at h <;> simp_all [SV.den, denL, At.val]
theorem ptrS_spec {v : SV K} {id off : Nat} (h : ptrS v = some (id, off)) : v = .one [.ptr id off] := by
  unfold ptrS at h; split at h <;> simp_all
theorem oneS_spec {v : SV K} {l : List (At K)} (h : oneS v = some l) : v = .one l := by
  unfold oneS at h; split at h <;> simp_all

theorem run_binR (OK : CtxOK P C) {op : BinOp} {t : TypeId} {x y : SV K} {ch : Nat} {r : Prop × Bool} (h : binR C op t x y ch = some r) (hr : r.1)
    (hx : x.all (AtOK C σ ρ w)) (hy : y.all (AtOK C σ ρ w)) (ox oy : Operand) :
    (do eqGuard op t ox oy (x.den ρ) (y.den ρ); binOp op t (x.den ρ) (y.den ρ)).run P w = .ok (.bool r.2) w := by
  unfold binR at h
  split at h
  · rename_i p q hp hq
    rw [boolS_spec hp, boolS_spec hq]
    cases hbt : C.boolT t with
    | false => rw [hbt] at h; cases h
    | true =>
    rw [hbt] at h
    simp only [cond_true] at h
    have hb := fun (u v : Bool) => run_equalIn_bool' (P := P) w 9999 t u v (OK.boolT t hbt)
    cases op <;> simp only [reduceCtorEq, Option.some.injEq] at h <;> subst h <;> simp [SV.den, denL, At.val, eqGuard, binOp, Op.equal, Op.maxDepth, hb]
  · split at h
    · rename_i k p k' q hp hq
      split at h
      · rename_i hk
        subst hk
        obtain ⟨s, hs, rfl⟩ := Option.map_eq_some_iff.1 h
        rw [litS_spec hp, litS_spec hq]
        have := run_lit hs P k t w
        simp only [SV.den, denL, At.val]
        simp [eqGuard, this]
      · cases h
    · split at h
      · rename_i k p k' q hp hq
        split at h
        · rename_i hk
          subst hk
          obtain ⟨s, hs, rfl⟩ := Option.map_eq_some_iff.1 h
          rw [intS_spec hp ρ, intS_spec hq ρ]
          have := run_cmp hs (pickP_spec hr) P k t w
          simp [eqGuard, this]
        · cases h
      · split at h
        · rename_i l m hl hm
          rw [oneS_spec hl] at hx ⊢
          rw [oneS_spec hm] at hy ⊢
          obtain ⟨p, hp, h⟩ := Option.bind_eq_some_iff.1 h
          obtain ⟨_, _, H⟩ := OK.eq t l m p hp
          have hbx : ∀ n x, At.big n x ∈ l → x < pw n := fun n x hmem => hx _ hmem
          have hby : ∀ n x, At.big n x ∈ m → x < pw n := fun n x hmem => hy _ hmem
          split at h
          · simp only [Option.some.injEq] at h
            subst h
            exact (H ρ hbx hby _ (pickP_spec hr) w ox oy).1
          · simp only [Option.some.injEq] at h
            subst h
            exact (H ρ hbx hby _ (pickP_spec hr) w ox oy).2
          · cases h
        · cases h

end Go.Proofs.YtmjdmhelmgcanaaDoor

/- An evaluation of straight Go code: an operation does what the evaluation says. -/
namespace Go.Proofs.YtmjdmhelmgcanaaDoor
open Go.RowKit
variable {K : Type} {P : Program} {C : Ctx K} {σ σ' : St K} {ρ ρ' : Env} {w0 w w' : World} {a : Act}

theorem wp_val {o : Oper} {v : Value} {K' : Act → World → Prop} {Q : Exit → Act → World → Prop} (h : (execOp a.eval o).run P w = .ok (.value v) w') (hk : K' (a.put o.dst v) w') : o.wp P a w K' Q := by
  unfold Oper.wp; rw [h]; exact hk
theorem wp_skp {o : Oper} {K' : Act → World → Prop} {Q : Exit → Act → World → Prop} (h : (execOp a.eval o).run P w = .ok .skip w') (hk : K' (a.put o.dst undef) w') : o.wp P a w K' Q := by
  unfold Oper.wp; rw [h]; exact hk

theorem AtOK0.ok {x : At K} (h : AtOK0 x) : AtOK C σ ρ w x := by
  cases x <;> simp_all [AtOK0, AtOK]

theorem cells_denL (I : CtxInv C) {l : List (At K)} (h : ∀ x ∈ l, AtOK C σ ρ w x) : (denL ρ l).cells = (cellsL ρ l).toArray := by
  cases hg : isAggL l with
  | true => rw [denL_agg _ hg]; rfl
  | false =>
    obtain ⟨x, rfl, h1, h2, _⟩ := denL_one ρ hg
    rw [h1, h2]
    have hx := h x (by simp)
    cases x with
    | obj id k =>
      obtain ⟨a, n, c, e⟩ := I.cell _ _ _ hx.2.1
      simp only [At.val, e]; rfl
    | big n x => simp [isAggL] at hg
    | _ => rfl

/-- a value comes, no more -/
theorem fin_pure (h : Rep C w0 ρ σ a w) {o : Oper} (hd : dstIn C.nt o.dst) {v : SV K} (hv : v.all (AtOK C σ ρ w)) (hrun : (execOp a.eval o).run P w = .ok (.value (v.den ρ)) w)
    {K' : Act → World → Prop} {Q : Exit → Act → World → Prop} (hK : ∀ ρ' a' w', Rep C w0 ρ' (putS o.dst v ((Eff.none : Eff K).app σ)) a' w' → K' a' w') : o.wp P a w K' Q :=
  wp_val hrun (hK _ _ _ (h.put hd hv))

/-- a variable comes -/
theorem fin_new (I : CtxInv C) (h : Rep C w0 ρ σ a w) {o : Oper} {d : Nat} (hdst : o.dst = some d) (hd : d < C.nt) (hfree : σ.dom d = false) {l : List (At K)} {t : TypeId} (hl : ∀ x ∈ l, AtOK C σ ρ w x)
    (hrun : (execOp a.eval o).run P w = .ok (.value (.pointer (some ⟨w.heap.size, 0, none⟩))) (w.alloc (.cells (cellsL ρ l).toArray t)))
    {K' : Act → World → Prop} {Q : Exit → Act → World → Prop} (hK : ∀ ρ' a' w', Rep C w0 ρ' (putS o.dst (.one [.ptr d 0]) ((Eff.new d l t : Eff K).app σ)) a' w' → K' a' w') : o.wp P a w K' Q := by
  have hg := h.goes I hfree (ρ' := { ρ with b := upd ρ.b d w.heap.size }) (w' := w.alloc (.cells (cellsL ρ l).toArray t))
    (fun i hi => upd_ne _ _ hi) (fun _ _ => rfl) (fun b hb => heap_push_old w _ hb) (by simp) rfl rfl rfl (some (l, t))
    (fun l' t' e => by
      simp only [Option.some.injEq, Prod.mk.injEq] at e
      obtain ⟨rfl, rfl⟩ := e
      refine ⟨by simp only [upd_same]; exact Nat.le_refl _, ?_, hl⟩
      simp only [upd_same]
      exact heap_alloc_new w _)
  refine wp_val hrun ?_
  have := hg.1.put (d := o.dst) (v := .one [.ptr d 0]) (by rw [hdst]; exact hd) (by
    intro x hx
    simp only [List.mem_singleton] at hx
    subst hx
    exact ⟨upd_same _ _ _, by simp only [newH, upd_same]; rfl⟩)
  have e : (SV.one [At.ptr d 0] : SV K).den { ρ with b := upd ρ.b d w.heap.size } = .pointer (some ⟨w.heap.size, 0, none⟩) := by
    simp [SV.den, denL, At.val, upd_same]
  rw [e] at this
  exact hK _ _ _ this

/-- a variable is written over -/
theorem fin_put (I : CtxInv C) (h : Rep C w0 ρ σ a w) {o : Oper} (hd : dstIn C.nt o.dst) {id : Nat} {l l' : List (At K)} {ty : TypeId} (hl : σ.heap id = some (l, ty)) (hl' : ∀ x ∈ l', AtOK C σ ρ w x)
    (hrun : (execOp a.eval o).run P w = .ok .skip (w.setRow (ρ.b id) (cellsL ρ l').toArray))
    {K' : Act → World → Prop} {Q : Exit → Act → World → Prop} (hK : ∀ ρ' a' w', Rep C w0 ρ' (putS o.dst (.tup []) ((Eff.put id l' ty : Eff K).app σ)) a' w' → K' a' w') : o.wp P a w K' Q := by
  obtain ⟨hB, hg⟩ := h.cells id l ty hl
  have hs : (w.setRow (ρ.b id) (cellsL ρ l').toArray).heap[ρ.b id]? = some (.cells (cellsL ρ l').toArray ty (0, 0)) := setRow_heap w _ _ _ _ _ hg
  have ho : ∀ b, b ≠ ρ.b id → (w.setRow (ρ.b id) (cellsL ρ l').toArray).heap[b]? = w.heap[b]? := fun b hb => setRow_other w _ _ _ hb
  have hmono : ∀ x, AtOK C σ ρ w x → AtOK C ((Eff.put id l' ty : Eff K).app σ) ρ (w.setRow (ρ.b id) (cellsL ρ l').toArray) x := by
    intro x hx
    refine hx.mono I (fun _ h => h) ?_ (fun _ _ => rfl) (by simp) ?_ ?_
    · intro i hi
      show (upd σ.heap id (some (l', ty)) i).isSome = true
      by_cases hid : i = id
      · subst hid; rw [upd_same]; rfl
      · rw [upd_ne _ _ hid]; exact hi
    · intro b _ hb
      exact ho b fun e => hb id (by rw [hl]; rfl) e.symm
    · intro i hi
      have hi' : (σ.heap i).isSome = true := by
        by_cases hid : i = id
        · subst hid; rw [hl]; rfl
        · have h2 : (upd σ.heap id (some (l', ty)) i).isSome = true := hi
          rw [upd_ne _ _ hid] at h2; exact h2
      exact .inl ⟨hi', rfl⟩
  have hdomSome : ∀ i, ((upd σ.heap id (some (l', ty))) i).isSome = true → (σ.heap i).isSome = true := by
    intro i hi
    by_cases hid : i = id
    · subst hid; rw [hl]; rfl
    · rw [upd_ne _ _ hid] at hi; exact hi
  have hrep : Rep C w0 ρ ((Eff.put id l' ty : Eff K).app σ) a (w.setRow (ρ.b id) (cellsL ρ l').toArray) := by
    refine ⟨h.size, h.defers, h.slots, ?_, ?_, ?_, ?_, ?_, ?_⟩
    · exact h.below.trans ⟨rfl, rfl, rfl, by simp, fun k hk => ho k (by omega)⟩
    · intro i m t hm
      have hm' : upd σ.heap id (some (l', ty)) i = some (m, t) := hm
      by_cases hid : i = id
      · subst hid
        rw [upd_same] at hm'
        simp only [Option.some.injEq, Prod.mk.injEq] at hm'
        obtain ⟨rfl, rfl⟩ := hm'
        exact ⟨hB, hs⟩
      · rw [upd_ne _ _ hid] at hm'
        obtain ⟨h1, h2⟩ := h.cells i m t hm'
        refine ⟨h1, ?_⟩
        rw [ho _ fun e => hid (h.inj i id (by rw [hm']; rfl) (by rw [hl]; rfl) e)]
        exact h2
    · intro i j hi hj
      exact h.inj i j (hdomSome i hi) (hdomSome j hj)
    · intro i
      exact SV.all_mono hmono (h.okS i)
    · intro i m t hm x hx
      have hm' : upd σ.heap id (some (l', ty)) i = some (m, t) := hm
      by_cases hid : i = id
      · subst hid
        rw [upd_same] at hm'
        simp only [Option.some.injEq, Prod.mk.injEq] at hm'
        obtain ⟨rfl, rfl⟩ := hm'
        exact hmono x (hl' x hx)
      · rw [upd_ne _ _ hid] at hm'
        exact hmono x (h.okH i m t hm' x hx)
    · intro i hi
      exact h.hdom i (hdomSome i hi)
  refine wp_skp hrun (hK ρ _ _ ?_)
  have := hrep.put (d := o.dst) hd (v := .tup []) (fun m hm => by cases hm)
  exact this

/-- a call ends -/
theorem fin_call (OK : CtxOK P C) (h : Rep C w0 ρ σ a w) {o : Oper} {d : Nat} (hdst : o.dst = some d) (hd : d < C.nt) (hfree : σ.dom d = false) {f : FuncId} {vs : List (SV K)} (hvs : ∀ s ∈ vs, s.all (AtOK C σ ρ w))
    {outs : List (Outc K)} (hcon : C.con f vs = some outs) {i : Nat} {oc : Outc K} (hoc : outs[i]? = some oc) (hc : oc.c)
    (hexec : execOp a.eval o = callFunc f (vs.map (SV.den ρ)).toArray)
    {K' : Act → World → Prop} {Q : Exit → Act → World → Prop} (hK : ∀ ρ' a' w', Rep C w0 ρ' (putS o.dst (oc.r d) ((Eff.own d : Eff K).app σ)) a' w' → K' a' w') : o.wp P a w K' Q := by
  have hne : ∀ i, σ.dom i = true → i ≠ d := fun i hi e => by subst e; rw [hfree] at hi; cases hi
  obtain ⟨hent, hcalls⟩ := OK.con f vs outs hcon i oc hoc hc ρ w d
    (fun s hs => SV.all_mono (fun x hx => by
      cases x with
      | obj id k => exact ⟨hx.2.1, fun b hb => (hx.2.2 b hb).1⟩
      | big n x => exact hx
      | _ => trivial) (hvs s hs))
    (fun s hs => SV.all_mono (fun x hx k e => by subst e; exact hne _ hx.1 rfl) (hvs s hs))
  unfold Oper.wp
  rw [hexec, hent]
  refine hcalls.mono ?_
  rintro e w' ⟨hb, v, rfl, hr⟩
  have hg := h.goes OK.toCtxInv hfree (ρ' := { ρ with v := upd ρ.v d v }) (w' := w') (fun _ _ => rfl) (fun i hi => upd_ne _ _ hi) (fun b hlt => hb.block b hlt) hb.size hb.os hb.tape hb.output none
    (fun l t e => by cases e)
  refine hK { ρ with v := upd ρ.v d v } _ _ (hg.1.put (d := o.dst) (by rw [hdst]; exact hd) (v := oc.r d) (SV.all_mono (fun x hx => ?_) hr))
  cases x with
  | big n x => exact hx
  | obj id k =>
    obtain ⟨rfl, h2, h3⟩ := hx
    refine ⟨upd_same _ _ _, by simp only [upd_same]; exact h2, ?_⟩
    intro b hb'
    simp only [upd_same] at hb'
    obtain ⟨h4, h5⟩ := h3 b hb'
    refine ⟨h5, fun i hi => ?_⟩
    have hi' : (σ.heap i).isSome = true := hi
    obtain ⟨⟨l, t⟩, hl⟩ := Option.isSome_iff_exists.1 hi'
    have := (Array.getElem?_eq_some_iff.1 (h.cells i l t hl).2).1
    show ρ.b i ≠ b
    omega
  | ptr id off => exact hx.elim
  | _ => trivial

set_option maxHeartbeats 1000000 in
theorem res_sound (OK : CtxOK P C) (h : Rep C w0 ρ σ a w) {orc : Nat → Nat} {o : Oper} {c : Prop} {v : SV K} {e : Eff K} (hr : res C orc o σ.slots σ.heap σ.dom = some (c, v, e)) (hc : c) (hd : dstIn C.nt o.dst)
    {K' : Act → World → Prop} {Q : Exit → Act → World → Prop} (hK : ∀ ρ' a' w', Rep C w0 ρ' (putS o.dst v (e.app σ)) a' w' → K' a' w') : o.wp P a w K' Q := by
  have I := OK.toCtxInv
  obtain ⟨dst, op, type, pos, after, guard⟩ := o
  cases op
  case move x =>
    obtain ⟨v', h1, h2⟩ := Option.map_eq_some_iff.1 hr
    simp only [Prod.mk.injEq] at h2
    obtain ⟨rfl, rfl, rfl⟩ := h2
    obtain ⟨e1, k1⟩ := valsOf_spec h h1
    exact fin_pure h hd k1 (by rw [← e1]; rfl) hK
  case assign x =>
    obtain ⟨v', h1, h2⟩ := Option.map_eq_some_iff.1 hr
    simp only [Prod.mk.injEq] at h2
    obtain ⟨rfl, rfl, rfl⟩ := h2
    obtain ⟨e1, k1⟩ := valsOf_spec h h1
    exact fin_pure h hd k1 (by rw [← e1]; rfl) hK
  case pick x y z =>
    obtain ⟨vc, h1, hr⟩ := Option.bind_eq_some_iff.1 hr
    obtain ⟨b, h2, hr⟩ := Option.bind_eq_some_iff.1 hr
    obtain ⟨v', h3, h4⟩ := Option.map_eq_some_iff.1 hr
    simp only [Prod.mk.injEq] at h4
    obtain ⟨rfl, rfl, rfl⟩ := h4
    obtain ⟨e1, _⟩ := valsOf_spec h h1
    rw [boolS_spec h2] at e1
    obtain ⟨e3, k3⟩ := valsOf_spec h h3
    refine fin_pure h hd k3 ?_ hK
    rw [← e3]
    have e1' : a.eval x = .bool b := e1
    cases b <;> simp [execOp, e1', asBool]
  case extract x i =>
    obtain ⟨vc, h1, hr⟩ := Option.bind_eq_some_iff.1 hr
    cases vc with
    | one l => cases hr
    | tup l =>
      obtain ⟨t, h3, h4⟩ := Option.map_eq_some_iff.1 hr
      simp only [Prod.mk.injEq] at h4
      obtain ⟨rfl, rfl, rfl⟩ := h4
      obtain ⟨e1, k1⟩ := valsOf_spec h h1
      refine fin_pure h hd (v := .one t) (fun x hx => k1 t (List.mem_of_getElem? h3) x hx) ?_ hK
      simp [execOp, e1, SV.den, Instr.extract, h3]
  case binOp bop t x y ty =>
    obtain ⟨vx, h1, hr⟩ := Option.bind_eq_some_iff.1 hr
    obtain ⟨vy, h2, hr⟩ := Option.bind_eq_some_iff.1 hr
    obtain ⟨r, h3, h4⟩ := Option.map_eq_some_iff.1 hr
    simp only [Prod.mk.injEq] at h4
    obtain ⟨rfl, rfl, rfl⟩ := h4
    obtain ⟨e1, k1⟩ := valsOf_spec h h1
    obtain ⟨e2, k2⟩ := valsOf_spec h h2
    refine fin_pure h hd (by intro z hz; simp only [List.mem_singleton] at hz; subst hz; trivial) ?_ hK
    have := run_binR OK h3 hc k1 k2 x y
    rw [← e1, ← e2] at this
    simp only [execOp, Sem.run_bind, Sem.run_pure] at this ⊢
    rw [this]
    rfl
  case unOp uop t x =>
    cases uop
    case not =>
      obtain ⟨vx, h1, hr⟩ := Option.bind_eq_some_iff.1 hr
      obtain ⟨b, h2, h4⟩ := Option.map_eq_some_iff.1 hr
      simp only [Prod.mk.injEq] at h4
      obtain ⟨rfl, rfl, rfl⟩ := h4
      obtain ⟨e1, _⟩ := valsOf_spec h h1
      rw [boolS_spec h2] at e1
      have e1' : a.eval x = .bool b := e1
      refine fin_pure h hd (by intro z hz; simp only [List.mem_singleton] at hz; subst hz; trivial) ?_ hK
      simp [execOp, e1', Op.unary, SV.den, denL, At.val]
    case neg =>
      obtain ⟨vx, h1, hr⟩ := Option.bind_eq_some_iff.1 hr
      obtain ⟨⟨k, n⟩, h2, hr⟩ := Option.bind_eq_some_iff.1 hr
      cases hb : decide (k = .i64 ∧ -1000 ≤ n ∧ n ≤ 1000) with
      | false => simp only [hb, cond_false, reduceCtorEq] at hr
      | true =>
        simp only [hb, cond_true, Option.some.injEq, Prod.mk.injEq] at hr
        obtain ⟨rfl, rfl, rfl⟩ := hr
        obtain ⟨rfl, hn1, hn2⟩ := of_decide_eq_true hb
        obtain ⟨e1, _⟩ := valsOf_spec h h1
        rw [litS_spec h2] at e1
        have e1' : a.eval x = .int .i64 n := e1
        refine fin_pure h hd (by intro z hz; simp only [List.mem_singleton] at hz; subst hz; trivial) ?_ hK
        have hw : IntKind.i64.wrap (-n) = -n := by
          have hm : (if (-n) % 18446744073709551616 ≥ 9223372036854775808 then (-n) % 18446744073709551616 - 18446744073709551616 else (-n) % 18446744073709551616) = -n := by
            split <;> omega
          simpa [IntKind.wrap, IntKind.bits, IntKind.signed] using hm
        simp [execOp, e1', Op.unary, SV.den, denL, At.val, Op.intArith, hw]
    all_goals cases hr
  case load t x =>
    obtain ⟨vx, h1, hr⟩ := Option.bind_eq_some_iff.1 hr
    obtain ⟨⟨id, off⟩, h2, hr⟩ := Option.bind_eq_some_iff.1 hr
    obtain ⟨⟨l, ty⟩, h3, hr⟩ := Option.bind_eq_some_iff.1 hr
    obtain ⟨n, h4, hr⟩ := Option.bind_eq_some_iff.1 hr
    obtain ⟨m, h5, hr⟩ := Option.bind_eq_some_iff.1 hr
    cases hg : (isAggL m == C.agg t) with
    | false => simp only [hg, cond_false, reduceCtorEq] at hr
    | true =>
      simp only [hg, cond_true, Option.some.injEq, Prod.mk.injEq] at hr
      obtain ⟨rfl, rfl, rfl⟩ := hr
      have hg' : isAggL m = C.agg t := by simpa using hg
      obtain ⟨e1, _⟩ := valsOf_spec h h1
      rw [ptrS_spec h2] at e1
      have e1' : a.eval x = .pointer (some ⟨ρ.b id, off, none⟩) := e1
      obtain ⟨p, r, hp, hpl, hs, hmem⟩ := partC_spec ρ h5
      obtain ⟨hB, hcell⟩ := h.cells id l ty h3
      refine fin_pure h hd (v := .one m) (fun x hx => h.okH id l ty h3 x (hmem x hx)) ?_ hK
      have hread : ∀ j v, (cellsL ρ m)[j]? = some v → w.cell? ((⟨ρ.b id, off, none⟩ : Addr).add j) = some v := by
        intro j v hv
        have hadd : (⟨ρ.b id, off, none⟩ : Addr).add j = ⟨ρ.b id, off + j, none⟩ := by unfold Addr.add; split <;> simp_all
        rw [hadd, cell_of_row w _ _ _ _ _ hcell]
        have hj : j < (cellsL ρ m).length := (List.getElem?_eq_some_iff.1 hv).1
        simp only [List.getElem?_toArray]
        rw [hp, List.getElem?_append_right (by omega), hpl, show off + j - off = j by omega, List.getElem?_append_left hj]
        exact hv
      have hload : (loadVar t ⟨ρ.b id, off, none⟩).run P w = .ok (denL ρ m) w := by
        unfold loadVar
        rw [Sem.run_bind, OK.agg t n h4 w, ← hg']
        cases hgm : isAggL m with
        | true =>
          have := run_loadCells_list (P := P) w ⟨ρ.b id, off, none⟩ (cellsL ρ m) hread
          rw [cellsL_length, hs] at this
          simp [Result.andThen, Sem.run_bind, OK.size t n h4 w, this, denL_agg _ hgm]
        | false =>
          obtain ⟨y, rfl, e2, e3, _⟩ := denL_one ρ hgm
          have := hread 0 (y.val ρ) (by rw [e3]; rfl)
          have h0 : (⟨ρ.b id, off, none⟩ : Addr).add 0 = ⟨ρ.b id, off, none⟩ := by simp [Addr.add]
          rw [h0] at this
          simp [Result.andThen, load, Sem.run, this, e2]
      simp [execOp, e1', Instr.loadAt, Instr.sureAddr, hload, SV.den]
  case store t x y =>
    obtain ⟨vx, h1, hr⟩ := Option.bind_eq_some_iff.1 hr
    obtain ⟨⟨id, off⟩, h2, hr⟩ := Option.bind_eq_some_iff.1 hr
    obtain ⟨⟨l, ty⟩, h3, hr⟩ := Option.bind_eq_some_iff.1 hr
    obtain ⟨vy, h6, hr⟩ := Option.bind_eq_some_iff.1 hr
    obtain ⟨new, h7, hr⟩ := Option.bind_eq_some_iff.1 hr
    obtain ⟨n, h4, hr⟩ := Option.bind_eq_some_iff.1 hr
    cases hg : Nat.beq (sizeL new) n with
    | false => simp only [hg, cond_false, reduceCtorEq] at hr
    | true =>
      simp only [hg, cond_true] at hr
      obtain ⟨l', h5, h8⟩ := Option.map_eq_some_iff.1 hr
      simp only [Prod.mk.injEq] at h8
      obtain ⟨rfl, rfl, rfl⟩ := h8
      have hn : sizeL new = n := Nat.eq_of_beq_eq_true hg
      obtain ⟨e1, _⟩ := valsOf_spec h h1
      rw [ptrS_spec h2] at e1
      have e1' : a.eval x = .pointer (some ⟨ρ.b id, off, none⟩) := e1
      obtain ⟨e2, k2⟩ := valsOf_spec h h6
      rw [oneS_spec h7] at e2 k2
      obtain ⟨p, m, r, hp, hp', hpl, hml, hmem⟩ := setC_spec ρ h5
      obtain ⟨hB, hcell⟩ := h.cells id l ty h3
      have hc1 : (denL ρ new).cells = (cellsL ρ new).toArray := cells_denL I k2
      refine fin_put I h hd h3 (l' := l') (fun x hx => ?_) ?_ hK
      · rcases hmem x hx with hx | hx
        · exact h.okH id l ty h3 x hx
        · exact k2 x hx
      · have hst := run_storeCells_at P (ρ.b id) off ty (cellsL ρ new) 0 _ w hcell
          (by simp only [List.size_toArray, hp, List.length_append, hpl, hml, cellsL_length]; omega) (cellsL_oneCell I k2)
        have hrow : ((cellsL ρ l).toArray.toList.take (off + 0) ++ cellsL ρ new ++ (cellsL ρ l).toArray.toList.drop (off + 0 + (cellsL ρ new).length)).toArray = (cellsL ρ l').toArray := by
          congr 1
          simp only [Nat.add_zero, hp', hp]
          rw [List.take_append_of_le_length (by omega), List.take_of_length_le (by omega), List.drop_append, List.drop_of_length_le (by omega), List.drop_append,
            List.drop_of_length_le (by rw [cellsL_length, hml]; omega)]
          rw [show off + (cellsL ρ new).length - p.length - m.length = 0 by rw [cellsL_length]; omega]
          simp
        rw [hrow] at hst
        have e2' : a.eval y = denL ρ new := e2
        simp [execOp, e1', e2', Instr.storeAt, Instr.sureAddr, storeVar, hc1, OK.size t n h4 w, cellsL_length, hn, hst]
  case alloc t =>
    obtain ⟨d, h1, hq⟩ := Option.bind_eq_some_iff.1 hr
    clear hr
    have h1' : dst = some d := h1
    subst h1'
    have hg : σ.dom d = false := by
      cases hg : σ.dom d with
      | false => rfl
      | true => rw [hg] at hq; cases hq
    · rw [hg] at hq
      have hr := (cond_false _ _).symm.trans hq
      obtain ⟨l, h2, h3⟩ := Option.map_eq_some_iff.1 hr
      simp only [Prod.mk.injEq] at h3
      obtain ⟨rfl, rfl, rfl⟩ := h3
      obtain ⟨hp, hz⟩ := OK.zero t l h2
      have hl : ∀ x ∈ l, AtOK C σ ρ w x := fun x hx => (hp x hx).ok
      refine fin_new I h rfl hd hg hl ?_ hK
      simp [execOp, Instr.alloc, hz ρ w, newVar, newRow, newObj, Sem.run, cells_denL I hl]
  case box t x =>
    obtain ⟨d, h1, hq⟩ := Option.bind_eq_some_iff.1 hr
    clear hr
    have h1' : dst = some d := h1
    subst h1'
    have hg : σ.dom d = false := by
      cases hg : σ.dom d with
      | false => rfl
      | true => rw [hg] at hq; cases hq
    · rw [hg] at hq
      have hr := (cond_false _ _).symm.trans hq
      obtain ⟨vx, h2, hr⟩ := Option.bind_eq_some_iff.1 hr
      obtain ⟨l, h4, h3⟩ := Option.map_eq_some_iff.1 hr
      simp only [Prod.mk.injEq] at h3
      obtain ⟨rfl, rfl, rfl⟩ := h3
      obtain ⟨e1, k1⟩ := valsOf_spec h h2
      rw [oneS_spec h4] at e1 k1
      have e1' : a.eval x = denL ρ l := e1
      refine fin_new I h rfl hd hg (l := l) k1 ?_ hK
      simp [execOp, Instr.box, e1', newVar, newRow, newObj, Sem.run, cells_denL I (l := l) k1]
  case fieldAddr st x f =>
    obtain ⟨vx, h1, hr⟩ := Option.bind_eq_some_iff.1 hr
    obtain ⟨⟨id, off⟩, h2, hr⟩ := Option.bind_eq_some_iff.1 hr
    obtain ⟨⟨k, t⟩, h3, h4⟩ := Option.map_eq_some_iff.1 hr
    simp only [Prod.mk.injEq] at h4
    obtain ⟨rfl, rfl, rfl⟩ := h4
    obtain ⟨e1, k1⟩ := valsOf_spec h h1
    rw [ptrS_spec h2] at e1 k1
    have e1' : a.eval x = .pointer (some ⟨ρ.b id, off, none⟩) := e1
    refine fin_pure h hd (v := .one [.ptr id (off + k)]) ?_ ?_ hK
    · intro z hz
      simp only [List.mem_singleton] at hz
      subst hz
      exact k1 (.ptr id off) (by simp)
    · simp [execOp, e1', OK.fldA st f k t h3, SV.den, denL, At.val]
  case field st x f =>
    obtain ⟨vx, h1, hr⟩ := Option.bind_eq_some_iff.1 hr
    obtain ⟨l, h2, hr⟩ := Option.bind_eq_some_iff.1 hr
    obtain ⟨⟨k, t⟩, h3, hr⟩ := Option.bind_eq_some_iff.1 hr
    obtain ⟨n, h4, hr⟩ := Option.bind_eq_some_iff.1 hr
    obtain ⟨m, h5, hr⟩ := Option.bind_eq_some_iff.1 hr
    cases hg : (isAggL l && (isAggL m == C.agg t)) with
    | false => simp only [hg, cond_false, reduceCtorEq] at hr
    | true =>
      simp only [hg, cond_true, Option.some.injEq, Prod.mk.injEq] at hr
      obtain ⟨rfl, rfl, rfl⟩ := hr
      simp only [Bool.and_eq_true, beq_iff_eq] at hg
      obtain ⟨hgl, hgm⟩ := hg
      obtain ⟨e1, k1⟩ := valsOf_spec h h1
      rw [oneS_spec h2] at e1 k1
      have e1' : a.eval x = .agg (cellsL ρ l).toArray := by rw [e1]; exact denL_agg ρ hgl
      obtain ⟨p, r, hp, hpl, hs, hmem⟩ := partC_spec ρ h5
      refine fin_pure h hd (v := .one m) (fun x hx => k1 x (hmem x hx)) ?_ hK
      have hlen : (cellsL ρ m).length = n := by rw [cellsL_length, hs]
      have hrun := OK.fld st f k t n h3 h4 (cellsL ρ l).toArray w (by
        simp only [List.size_toArray]
        rw [hp]; simp only [List.length_append, hpl, hlen]; omega)
      have hv : (if C.agg t = true then Value.agg ((cellsL ρ l).toArray.extract k (k + n)) else (cellsL ρ l).toArray.getD k undef) = denL ρ m := by
        rw [← hgm]
        cases hgm' : isAggL m with
        | true =>
          simp only [if_true, denL_agg _ hgm']
          congr 1
          rw [List.extract_toArray, hp, List.extract_eq_take_drop]
          congr 1
          rw [show k + n - k = n by omega, List.drop_append, List.drop_of_length_le (by omega), hpl, Nat.sub_self]
          simp only [List.drop_zero, List.nil_append]
          rw [List.take_append_of_le_length (by omega), List.take_of_length_le (by omega)]
        | false =>
          obtain ⟨y, rfl, e2, e3, _⟩ := denL_one ρ hgm'
          simp only [Bool.false_eq_true, if_false, e2]
          rw [e3] at hp
          rw [hp]
          simp [← hpl]
      rw [hv] at hrun
      simp [execOp, e1', hrun, SV.den]
  case build t parts =>
    obtain ⟨ps, h1, hr⟩ := Option.bind_eq_some_iff.1 hr
    obtain ⟨l, h2, h3⟩ := Option.map_eq_some_iff.1 hr
    simp only [Prod.mk.injEq] at h3
    obtain ⟨rfl, rfl, rfl⟩ := h3
    obtain ⟨e1, k1⟩ := allParts_spec h _ _ h1
    obtain ⟨hm, hrun⟩ := OK.build t ps l h2
    refine fin_pure h hd (v := .one l) ?_ ?_ hK
    · intro x hx
      rcases hm x hx with h0 | ⟨p, hp, m, hpm, hxm⟩
      · exact h0.ok
      · have := k1 p hp
        rw [hpm] at this
        exact this x hxm
    · have hparts : (parts.map fun p => (p.1, a.eval p.2)) = (ps.map fun p => (p.1, p.2.den ρ)).toArray := by
        apply Array.ext'
        simpa using e1
      have hr2 := hrun ρ w
      rw [← hparts] at hr2
      show (do let v ← Instr.build t (parts.map fun (i, x) => (i, a.eval x)); pure (Next.value v)).run P w = _
      rw [Sem.run_bind, hr2]
      rfl
  case convert src dst' x =>
    obtain ⟨vx, h1, hr⟩ := Option.bind_eq_some_iff.1 hr
    obtain ⟨⟨k, n⟩, h2, hr⟩ := Option.bind_eq_some_iff.1 hr
    obtain ⟨k', h3, h4⟩ := Option.map_eq_some_iff.1 hr
    simp only [Prod.mk.injEq] at h4
    obtain ⟨rfl, rfl, rfl⟩ := h4
    obtain ⟨e1, _⟩ := valsOf_spec h h1
    rw [intS_spec h2 ρ] at e1
    refine fin_pure h hd (v := .one [.int k' n]) (by intro z hz; simp only [List.mem_singleton] at hz; subst hz; trivial) ?_ hK
    simp [execOp, e1, OK.conv src dst' k k' h3 n hc.1 hc.2 w, SV.den, denL, At.val]
  case call cl =>
    obtain ⟨callee, args, ats⟩ := cl
    cases callee with
    | value f =>
      obtain ⟨d, h1, hq⟩ := Option.bind_eq_some_iff.1 hr
      clear hr
      have h1' : dst = some d := h1
      subst h1'
      have hg : σ.dom d = false := by
        cases hg : σ.dom d with
        | false => rfl
        | true => rw [hg] at hq; cases hq
      · rw [hg] at hq
        have hr := (cond_false _ _).symm.trans hq
        obtain ⟨vf, h2, hr⟩ := Option.bind_eq_some_iff.1 hr
        split at hr
        · rename_i g
          obtain ⟨vs, h3, hr⟩ := Option.bind_eq_some_iff.1 hr
          obtain ⟨outs, h4, hr⟩ := Option.bind_eq_some_iff.1 hr
          obtain ⟨oc, h5, h6⟩ := Option.map_eq_some_iff.1 hr
          simp only [Prod.mk.injEq] at h6
          obtain ⟨rfl, rfl, rfl⟩ := h6
          obtain ⟨e1, _⟩ := valsOf_spec h h2
          have e1' : a.eval f = .func (.func g) #[] #[] := e1
          obtain ⟨e3, k3⟩ := allVals_spec h _ _ h3
          refine fin_call OK h rfl hd hg k3 h4 h5 hc ?_ hK
          have hargs : args.map a.eval = (vs.map (SV.den ρ)).toArray := by
            apply Array.ext'
            simpa using e3
          show (do let d ← resolve a.eval ⟨.value f, args, ats⟩ type; invoke d.target d.args) = _
          simp only [resolve, e1', hargs]
          simp [Deferred.ofValue, invoke]
        · cases hr
    | builtin b =>
      cases b
      case len =>
        obtain ⟨vs, h1, hr⟩ := Option.bind_eq_some_iff.1 hr
        split at hr
        · rename_i id k t hat
          cases hst : C.sliceT t with
          | false => rw [hst] at hr; cases hr
          | true =>
            rw [hst] at hr
            simp only [cond_true, Option.some.injEq, Prod.mk.injEq] at hr
            obtain ⟨rfl, rfl, rfl⟩ := hr
            obtain ⟨e1, k1⟩ := allVals_spec h _ _ h1
            have hk := k1 _ List.mem_cons_self _ List.mem_cons_self
            obtain ⟨ao, c, hv⟩ := OK.len k _ w hk.2.1
            obtain ⟨el, hu⟩ := OK.sliceT t hst
            have hargs : args.map a.eval = #[.slice ao (C.len k) c] := by
              have : args.toList.map a.eval = [.slice ao (C.len k) c] := by rw [e1]; simp [SV.den, denL, At.val, hv]
              apply Array.ext'
              simpa using this
            have hat' : ats = #[t] := by
              apply Array.ext'
              simpa using hat
            refine fin_pure h hd (v := .one [.int .i64 (C.len k)]) (by intro z hz; simp only [List.mem_singleton] at hz; subst hz; trivial) ?_ hK
            simp [execOp, resolve, invoke, builtin, hargs, hat', Builtin.len_, run_underlying hu, goInt, SV.den, denL, At.val]
        · cases hr
      all_goals cases hr
    | invoke r m => cases hr
  all_goals cases hr

end Go.Proofs.YtmjdmhelmgcanaaDoor

/- An evaluation of straight Go code: in whatever order the operations of a statement come, they come to the same. -/
namespace Go.Proofs.YtmjdmhelmgcanaaDoor
open Go.RowKit
variable {K : Type} {P : Program} {C : Ctx K} {σ σ' : St K}

def wantS (nt : Nat) (ops : Array Oper) (slots : Nat → SV K) (o : Oper) : Option Bool :=
  match o.guard with
  | none => some true
  | some (j, want) => match (ops[j]?).bind (·.dst) with
    | some t => bif Nat.blt t nt then (match slots t with
        | .one [.bool b] => some (b == want)
        | .tup [] => some false
        | _ => none) else none
    | none => some false

def dstB (nt : Nat) : Option Nat → Bool
  | some d => Nat.blt d nt
  | none => true

/-- what an operation comes to, its guard looked at -/
def raw (C : Ctx K) (orc : Nat → Nat) (ops : Array Oper) (o : Oper) (σ : St K) : Option (Prop × SV K × Eff K) :=
  bif dstB C.nt o.dst then (match wantS C.nt ops σ.slots o with
    | some true => res C orc o σ.slots σ.heap σ.dom
    | some false => some (True, .tup [], .none)
    | none => none) else none

def app (o : Oper) (r : Prop × SV K × Eff K) (σ : St K) : St K := putS o.dst r.2.1 (r.2.2.app σ)

def step (C : Ctx K) (orc : Nat → Nat) (ops : Array Oper) (o : Oper) (σ : St K) : Option (Prop × St K) :=
  (raw C orc ops o σ).map fun r => (r.1, app o r σ)

/-- all names are known ones -/
structure Wf (σ : St K) : Prop where
  slots : ∀ i, (σ.slots i).all (At.inD σ.dom)
  heap : ∀ id l t, σ.heap id = some (l, t) → ∀ a ∈ l, a.inD σ.dom
  hdom : ∀ id, (σ.heap id).isSome = true → σ.dom id = true

def At.inD1 (d : Nat) : At K → Prop
  | .ptr _ _ => False
  | .obj id _ => id = d
  | _ => True

structure CtxD (C : Ctx K) : Prop where
  zero : ∀ t l, C.zero t = some l → ∀ a ∈ l, AtOK0 a
  build : ∀ t ps l, C.build t ps = some l → ∀ a ∈ l, AtOK0 a ∨ ∃ p ∈ ps, ∃ m, p.2 = .one m ∧ a ∈ m
  con : ∀ f args outs, C.con f args = some outs → ∀ (i : Nat) oc, outs[i]? = some oc → ∀ d, (oc.r d).all (At.inD1 d)

theorem AtOK0.inD {x : At K} {dom : Nat → Bool} (h : AtOK0 x) : x.inD dom := by cases x <;> simp_all [AtOK0, At.inD]

theorem inD_upd {x : At K} {dom : Nat → Bool} {d : Nat} (h : x.inD dom) : x.inD (upd dom d true) := by
  cases x <;> simp only [At.inD] at h ⊢
  all_goals
    rename_i id _
    by_cases hid : id = d
    · subst hid; exact upd_same _ _ _
    · rw [upd_ne _ _ hid]; exact h

theorem valsOf_inD (h : Wf σ) {x : Operand} {nt : Nat} {v : SV K} (hv : valsOf nt σ.slots x = some v) : v.all (At.inD σ.dom) := by
  unfold valsOf at hv
  split at hv
  · rename_i t
    cases hb : Nat.blt t nt with
    | false => rw [hb] at hv; cases hv
    | true =>
      rw [hb] at hv
      simp only [cond_true, Option.some.injEq] at hv
      subst hv
      exact h.slots t
  all_goals first
    | (simp only [Option.some.injEq] at hv; subst hv; simp [SV.all, At.inD])
    | cases hv

theorem allParts_inD (h : Wf σ) {nt : Nat} : ∀ (xs : List (Nat × Operand)) (vs : List (Nat × SV K)), allParts nt σ.slots xs = some vs → ∀ s ∈ vs, s.2.all (At.inD σ.dom)
  | [], vs, hv => by simp only [allParts, Option.some.injEq] at hv; subst hv; simp
  | (i, x) :: r, vs, hv => by
    simp only [allParts] at hv
    obtain ⟨v, h1, hv⟩ := Option.bind_eq_some_iff.1 hv
    obtain ⟨vs', h2, rfl⟩ := Option.map_eq_some_iff.1 hv
    intro s hs
    rcases List.mem_cons.1 hs with rfl | hs
    · exact valsOf_inD h h1
    · exact allParts_inD h r vs' h2 s hs

/-- what an operation's value and effect name -/
def EffIn (σ : St K) (d : Option Nat) : Eff K → Prop
  | .none => True
  | .new id l _ => d = some id ∧ σ.dom id = false ∧ ∀ a ∈ l, a.inD σ.dom
  | .put id l ty => (∃ l0, σ.heap id = some (l0, ty)) ∧ ∀ a ∈ l, a.inD σ.dom
  | .own id => d = some id ∧ σ.dom id = false

def ValIn (σ : St K) (v : SV K) (e : Eff K) : Prop := v.all (At.inD (e.app σ).dom)

theorem res_in (D : CtxD C) (h : Wf σ) {orc : Nat → Nat} {o : Oper} {c : Prop} {v : SV K} {e : Eff K} (hr : res C orc o σ.slots σ.heap σ.dom = some (c, v, e)) :
    EffIn σ o.dst e ∧ ValIn σ v e := by
  have one : ∀ x : At K, (∀ dom, x.inD dom) → (SV.one [x]).all (At.inD σ.dom) := fun x hx y hy => by
    simp only [List.mem_singleton] at hy; subst hy; exact hx _
  obtain ⟨dst, op, type, pos, after, guard⟩ := o
  cases op
  case move x =>
    obtain ⟨v', h1, h2⟩ := Option.map_eq_some_iff.1 hr
    simp only [Prod.mk.injEq] at h2
    obtain ⟨rfl, rfl, rfl⟩ := h2
    exact ⟨trivial, valsOf_inD h h1⟩
  case assign x =>
    obtain ⟨v', h1, h2⟩ := Option.map_eq_some_iff.1 hr
    simp only [Prod.mk.injEq] at h2
    obtain ⟨rfl, rfl, rfl⟩ := h2
    exact ⟨trivial, valsOf_inD h h1⟩
  case pick x y z =>
    obtain ⟨vc, h1, hr⟩ := Option.bind_eq_some_iff.1 hr
    obtain ⟨b, h2, hr⟩ := Option.bind_eq_some_iff.1 hr
    obtain ⟨v', h3, h4⟩ := Option.map_eq_some_iff.1 hr
    simp only [Prod.mk.injEq] at h4
    obtain ⟨rfl, rfl, rfl⟩ := h4
    exact ⟨trivial, valsOf_inD h h3⟩
  case extract x i =>
    obtain ⟨vc, h1, hr⟩ := Option.bind_eq_some_iff.1 hr
    cases vc with
    | one l => cases hr
    | tup l =>
      obtain ⟨t, h3, h4⟩ := Option.map_eq_some_iff.1 hr
      simp only [Prod.mk.injEq] at h4
      obtain ⟨rfl, rfl, rfl⟩ := h4
      exact ⟨trivial, fun y hy => valsOf_inD h h1 t (List.mem_of_getElem? h3) y hy⟩
  case binOp bop t x y ty =>
    obtain ⟨vx, h1, hr⟩ := Option.bind_eq_some_iff.1 hr
    obtain ⟨vy, h2, hr⟩ := Option.bind_eq_some_iff.1 hr
    obtain ⟨r, h3, h4⟩ := Option.map_eq_some_iff.1 hr
    simp only [Prod.mk.injEq] at h4
    obtain ⟨rfl, rfl, rfl⟩ := h4
    exact ⟨trivial, one _ fun _ => trivial⟩
  case unOp uop t x =>
    cases uop
    case not =>
      obtain ⟨vx, h1, hr⟩ := Option.bind_eq_some_iff.1 hr
      obtain ⟨b, h2, h4⟩ := Option.map_eq_some_iff.1 hr
      simp only [Prod.mk.injEq] at h4
      obtain ⟨rfl, rfl, rfl⟩ := h4
      exact ⟨trivial, one _ fun _ => trivial⟩
    case neg =>
      obtain ⟨vx, h1, hr⟩ := Option.bind_eq_some_iff.1 hr
      obtain ⟨⟨k, n⟩, h2, hr⟩ := Option.bind_eq_some_iff.1 hr
      cases hb : decide (k = .i64 ∧ -1000 ≤ n ∧ n ≤ 1000) with
      | false => simp only [hb, cond_false, reduceCtorEq] at hr
      | true =>
        simp only [hb, cond_true, Option.some.injEq, Prod.mk.injEq] at hr
        obtain ⟨rfl, rfl, rfl⟩ := hr
        exact ⟨trivial, one _ fun _ => trivial⟩
    all_goals cases hr
  case load t x =>
    obtain ⟨vx, h1, hr⟩ := Option.bind_eq_some_iff.1 hr
    obtain ⟨⟨id, off⟩, h2, hr⟩ := Option.bind_eq_some_iff.1 hr
    obtain ⟨⟨l, ty⟩, h3, hr⟩ := Option.bind_eq_some_iff.1 hr
    obtain ⟨n, h4, hr⟩ := Option.bind_eq_some_iff.1 hr
    obtain ⟨m, h5, hr⟩ := Option.bind_eq_some_iff.1 hr
    cases hg : (isAggL m == C.agg t) with
    | false => simp only [hg, cond_false, reduceCtorEq] at hr
    | true =>
      simp only [hg, cond_true, Option.some.injEq, Prod.mk.injEq] at hr
      obtain ⟨rfl, rfl, rfl⟩ := hr
      obtain ⟨p, r, _, _, _, hmem⟩ := partC_spec ⟨fun _ => 0, fun _ => undef⟩ h5
      exact ⟨trivial, fun y hy => h.heap id l ty h3 y (hmem y hy)⟩
  case store t x y =>
    obtain ⟨vx, h1, hr⟩ := Option.bind_eq_some_iff.1 hr
    obtain ⟨⟨id, off⟩, h2, hr⟩ := Option.bind_eq_some_iff.1 hr
    obtain ⟨⟨l, ty⟩, h3, hr⟩ := Option.bind_eq_some_iff.1 hr
    obtain ⟨vy, h6, hr⟩ := Option.bind_eq_some_iff.1 hr
    obtain ⟨new, h7, hr⟩ := Option.bind_eq_some_iff.1 hr
    obtain ⟨n, h4, hr⟩ := Option.bind_eq_some_iff.1 hr
    cases hg : Nat.beq (sizeL new) n with
    | false => simp only [hg, cond_false, reduceCtorEq] at hr
    | true =>
      simp only [hg, cond_true] at hr
      obtain ⟨l', h5, h8⟩ := Option.map_eq_some_iff.1 hr
      simp only [Prod.mk.injEq] at h8
      obtain ⟨rfl, rfl, rfl⟩ := h8
      obtain ⟨p, m, r, _, _, _, _, hmem⟩ := setC_spec ⟨fun _ => 0, fun _ => undef⟩ h5
      have k2 := valsOf_inD h h6
      rw [oneS_spec h7] at k2
      refine ⟨⟨⟨l, h3⟩, fun y hy => ?_⟩, fun m hm => by cases hm⟩
      rcases hmem y hy with hy | hy
      · exact h.heap id l ty h3 y hy
      · exact k2 y hy
  case alloc t =>
    obtain ⟨d, h1, hq⟩ := Option.bind_eq_some_iff.1 hr
    clear hr
    have h1' : dst = some d := h1
    subst h1'
    have hg : σ.dom d = false := by
      cases hg : σ.dom d with
      | false => rfl
      | true => rw [hg] at hq; cases hq
    rw [hg] at hq
    obtain ⟨l, h2, h3⟩ := Option.map_eq_some_iff.1 ((cond_false _ _).symm.trans hq)
    simp only [Prod.mk.injEq] at h3
    obtain ⟨rfl, rfl, rfl⟩ := h3
    refine ⟨⟨rfl, hg, fun y hy => (D.zero t l h2 y hy).inD⟩, fun y hy => ?_⟩
    simp only [List.mem_singleton] at hy
    subst hy
    exact upd_same _ _ _
  case box t x =>
    obtain ⟨d, h1, hq⟩ := Option.bind_eq_some_iff.1 hr
    clear hr
    have h1' : dst = some d := h1
    subst h1'
    have hg : σ.dom d = false := by
      cases hg : σ.dom d with
      | false => rfl
      | true => rw [hg] at hq; cases hq
    rw [hg] at hq
    obtain ⟨vx, h2, hr⟩ := Option.bind_eq_some_iff.1 ((cond_false _ _).symm.trans hq)
    obtain ⟨l, h4, h3⟩ := Option.map_eq_some_iff.1 hr
    simp only [Prod.mk.injEq] at h3
    obtain ⟨rfl, rfl, rfl⟩ := h3
    have k1 := valsOf_inD h h2
    rw [oneS_spec h4] at k1
    refine ⟨⟨rfl, hg, k1⟩, fun y hy => ?_⟩
    simp only [List.mem_singleton] at hy
    subst hy
    exact upd_same _ _ _
  case fieldAddr st x f =>
    obtain ⟨vx, h1, hr⟩ := Option.bind_eq_some_iff.1 hr
    obtain ⟨⟨id, off⟩, h2, hr⟩ := Option.bind_eq_some_iff.1 hr
    obtain ⟨⟨k, t⟩, h3, h4⟩ := Option.map_eq_some_iff.1 hr
    simp only [Prod.mk.injEq] at h4
    obtain ⟨rfl, rfl, rfl⟩ := h4
    have k1 := valsOf_inD h h1
    rw [ptrS_spec h2] at k1
    refine ⟨trivial, fun y hy => ?_⟩
    simp only [List.mem_singleton] at hy
    subst hy
    exact k1 (.ptr id off) (by simp)
  case field st x f =>
    obtain ⟨vx, h1, hr⟩ := Option.bind_eq_some_iff.1 hr
    obtain ⟨l, h2, hr⟩ := Option.bind_eq_some_iff.1 hr
    obtain ⟨⟨k, t⟩, h3, hr⟩ := Option.bind_eq_some_iff.1 hr
    obtain ⟨n, h4, hr⟩ := Option.bind_eq_some_iff.1 hr
    obtain ⟨m, h5, hr⟩ := Option.bind_eq_some_iff.1 hr
    cases hg : (isAggL l && (isAggL m == C.agg t)) with
    | false => simp only [hg, cond_false, reduceCtorEq] at hr
    | true =>
      simp only [hg, cond_true, Option.some.injEq, Prod.mk.injEq] at hr
      obtain ⟨rfl, rfl, rfl⟩ := hr
      obtain ⟨p, r, _, _, _, hmem⟩ := partC_spec ⟨fun _ => 0, fun _ => undef⟩ h5
      have k1 := valsOf_inD h h1
      rw [oneS_spec h2] at k1
      exact ⟨trivial, fun y hy => k1 y (hmem y hy)⟩
  case build t parts =>
    obtain ⟨ps, h1, hr⟩ := Option.bind_eq_some_iff.1 hr
    obtain ⟨l, h2, h3⟩ := Option.map_eq_some_iff.1 hr
    simp only [Prod.mk.injEq] at h3
    obtain ⟨rfl, rfl, rfl⟩ := h3
    refine ⟨trivial, fun y hy => ?_⟩
    rcases D.build t ps l h2 y hy with h0 | ⟨p, hp, m, hpm, hxm⟩
    · exact h0.inD
    · have := allParts_inD h _ _ h1 p hp
      rw [hpm] at this
      exact this y hxm
  case convert src dst' x =>
    obtain ⟨vx, h1, hr⟩ := Option.bind_eq_some_iff.1 hr
    obtain ⟨⟨k, n⟩, h2, hr⟩ := Option.bind_eq_some_iff.1 hr
    obtain ⟨k', h3, h4⟩ := Option.map_eq_some_iff.1 hr
    simp only [Prod.mk.injEq] at h4
    obtain ⟨rfl, rfl, rfl⟩ := h4
    exact ⟨trivial, one _ fun _ => trivial⟩
  case call cl =>
    obtain ⟨callee, args, ats⟩ := cl
    cases callee with
    | value f =>
      obtain ⟨d, h1, hq⟩ := Option.bind_eq_some_iff.1 hr
      clear hr
      have h1' : dst = some d := h1
      subst h1'
      have hg : σ.dom d = false := by
        cases hg : σ.dom d with
        | false => rfl
        | true => rw [hg] at hq; cases hq
      rw [hg] at hq
      obtain ⟨vf, h2, hr⟩ := Option.bind_eq_some_iff.1 ((cond_false _ _).symm.trans hq)
      split at hr
      · rename_i g
        obtain ⟨vs, h3, hr⟩ := Option.bind_eq_some_iff.1 hr
        obtain ⟨outs, h4, hr⟩ := Option.bind_eq_some_iff.1 hr
        obtain ⟨oc, h5, h6⟩ := Option.map_eq_some_iff.1 hr
        simp only [Prod.mk.injEq] at h6
        obtain ⟨rfl, rfl, rfl⟩ := h6
        refine ⟨⟨rfl, hg⟩, SV.all_mono (fun x hx => ?_) (D.con g vs outs h4 _ oc h5 d)⟩
        cases x with
        | ptr id off => exact hx.elim
        | obj id k =>
          have : id = d := hx
          subst this
          exact upd_same _ _ _
        | _ => trivial
      · cases hr
    | builtin b =>
      cases b
      case len =>
        obtain ⟨vs, h1, hr⟩ := Option.bind_eq_some_iff.1 hr
        split at hr
        · rename_i id k t hat
          cases hst : C.sliceT t with
          | false => rw [hst] at hr; cases hr
          | true =>
            rw [hst] at hr
            simp only [cond_true, Option.some.injEq, Prod.mk.injEq] at hr
            obtain ⟨rfl, rfl, rfl⟩ := hr
            exact ⟨trivial, one _ fun _ => trivial⟩
        · cases hr
      all_goals cases hr
    | invoke r m => cases hr
  all_goals cases hr

theorem raw_in (D : CtxD C) (h : Wf σ) {orc : Nat → Nat} {ops : Array Oper} {o : Oper} {r : Prop × SV K × Eff K} (hr : raw C orc ops o σ = some r) : EffIn σ o.dst r.2.2 ∧ ValIn σ r.2.1 r.2.2 := by
  unfold raw at hr
  cases hd : dstB C.nt o.dst with
  | false => rw [hd] at hr; cases hr
  | true =>
    rw [hd] at hr
    simp only [cond_true] at hr
    split at hr
    · exact res_in D h hr
    · simp only [Option.some.injEq] at hr
      subst hr
      exact ⟨trivial, fun m hm => by cases hm⟩
    · cases hr

theorem app_wf (h : Wf σ) {o : Oper} {r : Prop × SV K × Eff K} (he : EffIn σ o.dst r.2.2) (hv : ValIn σ r.2.1 r.2.2) : Wf (app o r σ) := by
  obtain ⟨c, v, e⟩ := r
  have hdom : ∀ x : At K, x.inD σ.dom → x.inD (e.app σ).dom := by
    intro x hx
    cases e <;> first | exact hx | exact inD_upd hx
  have hslots : (e.app σ).slots = σ.slots := by cases e <;> rfl
  have hbase : Wf (e.app σ) := by
    refine ⟨fun i => ?_, ?_, ?_⟩
    · rw [hslots]; exact SV.all_mono hdom (h.slots i)
    · intro id l t hl x hx
      cases e with
      | none => exact h.heap id l t hl x hx
      | own d => exact hdom x (h.heap id l t hl x hx)
      | new d l' t' =>
        obtain ⟨_, _, h3⟩ := he
        have hl' : upd σ.heap d (some (l', t')) id = some (l, t) := hl
        by_cases hid : id = d
        · subst hid
          rw [upd_same] at hl'
          simp only [Option.some.injEq, Prod.mk.injEq] at hl'
          obtain ⟨rfl, rfl⟩ := hl'
          exact hdom x (h3 x hx)
        · rw [upd_ne _ _ hid] at hl'
          exact hdom x (h.heap id l t hl' x hx)
      | put d l' t' =>
        obtain ⟨_, h3⟩ := he
        have hl' : upd σ.heap d (some (l', t')) id = some (l, t) := hl
        by_cases hid : id = d
        · subst hid
          rw [upd_same] at hl'
          simp only [Option.some.injEq, Prod.mk.injEq] at hl'
          obtain ⟨rfl, rfl⟩ := hl'
          exact hdom x (h3 x hx)
        · rw [upd_ne _ _ hid] at hl'
          exact hdom x (h.heap id l t hl' x hx)
    · intro id hi
      cases e with
      | none => exact h.hdom id hi
      | own d =>
        have := h.hdom id hi
        show upd σ.dom d true id = true
        by_cases hid : id = d
        · subst hid; exact upd_same _ _ _
        · rw [upd_ne _ _ hid]; exact this
      | new d l' t' =>
        show upd σ.dom d true id = true
        by_cases hid : id = d
        · subst hid; exact upd_same _ _ _
        · rw [upd_ne _ _ hid]
          have hi' : (upd σ.heap d (some (l', t')) id).isSome = true := hi
          rw [upd_ne _ _ hid] at hi'
          exact h.hdom id hi'
      | put d l' t' =>
        obtain ⟨⟨l0, h0⟩, _⟩ := he
        show σ.dom id = true
        by_cases hid : id = d
        · subst hid; exact h.hdom id (by rw [h0]; rfl)
        · have hi' : (upd σ.heap d (some (l', t')) id).isSome = true := hi
          rw [upd_ne _ _ hid] at hi'
          exact h.hdom id hi'
  refine ⟨fun i => ?_, ?_, ?_⟩
  · show ((putS o.dst v (e.app σ)).slots i).all (At.inD (putS o.dst v (e.app σ)).dom)
    rw [putS_dom]
    cases hd : o.dst with
    | none => exact hbase.slots i
    | some d =>
      show (upd (e.app σ).slots d v i).all _
      by_cases hid : i = d
      · subst hid; rw [upd_same]; exact hv
      · rw [upd_ne _ _ hid]; exact hbase.slots i
  · show ∀ id l t, (putS o.dst v (e.app σ)).heap id = some (l, t) → ∀ a ∈ l, a.inD (putS o.dst v (e.app σ)).dom
    rw [putS_dom, putS_heap]
    exact hbase.heap
  · show ∀ id, ((putS o.dst v (e.app σ)).heap id).isSome = true → (putS o.dst v (e.app σ)).dom id = true
    rw [putS_dom, putS_heap]
    exact hbase.hdom

end Go.Proofs.YtmjdmhelmgcanaaDoor

/- An evaluation of straight Go code: operations that don't hang on one another may change places. -/
namespace Go.Proofs.YtmjdmhelmgcanaaDoor
open Go.RowKit
variable {K : Type} {P : Program} {C : Ctx K} {σ σ' : St K}

/-- 2: it writes own memory; 1: it reads it; 0: neither -/
def memClass (o : Oper) : Nat :=
  match o.op with
  | .store _ _ _ => 2
  | .load _ _ => 1
  | _ => 0
def memOK (x y : Oper) : Bool :=
  match memClass x, memClass y with
  | 2, 2 | 2, 1 | 1, 2 => false
  | _, _ => true

theorem valsOf_frame {nt : Nat} {s s' : Nat → SV K} {x : Operand} (h : ∀ t, x = .tmp t → s' t = s t) : valsOf nt s' x = valsOf nt s x := by
  unfold valsOf
  split
  · rename_i t; rw [h t rfl]
  all_goals rfl

theorem allVals_frame {nt : Nat} {s s' : Nat → SV K} : ∀ (xs : List Operand), (∀ x ∈ xs, ∀ t, x = .tmp t → s' t = s t) → allVals nt s' xs = allVals nt s xs
  | [], _ => rfl
  | x :: r, h => by
    simp only [allVals]
    rw [valsOf_frame (h x List.mem_cons_self), allVals_frame r fun y hy => h y (List.mem_cons_of_mem _ hy)]

theorem allParts_frame {nt : Nat} {s s' : Nat → SV K} : ∀ (xs : List (Nat × Operand)), (∀ x ∈ xs, ∀ t, x.2 = .tmp t → s' t = s t) → allParts nt s' xs = allParts nt s xs
  | [], _ => rfl
  | (i, x) :: r, h => by
    simp only [allParts]
    rw [valsOf_frame (h (i, x) List.mem_cons_self), allParts_frame r fun y hy => h y (List.mem_cons_of_mem _ hy)]

/-- An operation's result hangs on its operands' slots, on the variables that it reads, and on whether its own name is new. -/
theorem res_frame {orc : Nat → Nat} {o : Oper} {s s' : Nat → SV K} {hp hp' : Nat → Option (List (At K) × TypeId)} {dm dm' : Nat → Bool}
    (hs : ∀ x ∈ o.op.operands.toList, ∀ t, x = .tmp t → s' t = s t) (hd : ∀ d, o.dst = some d → dm' d = dm d)
    (hh : memClass o ≠ 0 → ∀ x ∈ o.op.operands.toList, ∀ v id off, valsOf C.nt s x = some v → ptrS v = some (id, off) → hp' id = hp id) :
    res C orc o s' hp' dm' = res C orc o s hp dm := by
  obtain ⟨dst, op, type, pos, after, guard⟩ := o
  cases op
  case move x => simp only [res]; rw [valsOf_frame (hs x (by simp [Op.operands]))]
  case assign x => simp only [res]; rw [valsOf_frame (hs x (by simp [Op.operands]))]
  case pick x y z =>
    simp only [res]
    rw [valsOf_frame (hs x (by simp [Op.operands]))]
    have hy := valsOf_frame (nt := C.nt) (hs y (by simp [Op.operands]))
    have hz := valsOf_frame (nt := C.nt) (hs z (by simp [Op.operands]))
    congr 1
    funext v
    congr 1
    funext b
    cases b <;> simp only [cond_true, cond_false, hy, hz]
  case extract x i => simp only [res]; rw [valsOf_frame (hs x (by simp [Op.operands]))]
  case binOp bop t x y ty =>
    simp only [res]; rw [valsOf_frame (hs x (by simp [Op.operands])), valsOf_frame (hs y (by simp [Op.operands]))]
  case unOp u t x => cases u <;> simp only [res] <;> rw [valsOf_frame (hs x (by simp [Op.operands]))]
  case load t x =>
    simp only [res]
    rw [valsOf_frame (hs x (by simp [Op.operands]))]
    cases hv : valsOf C.nt s x with
    | none => rfl
    | some v =>
      simp only [Option.bind_some]
      cases hp1 : ptrS v with
      | none => rfl
      | some q =>
        simp only [Option.bind_some]
        rw [hh (by simp [memClass]) x (by simp [Op.operands]) v q.1 q.2 hv hp1]
  case store t x y =>
    simp only [res]
    rw [valsOf_frame (hs x (by simp [Op.operands])), valsOf_frame (hs y (by simp [Op.operands]))]
    cases hv : valsOf C.nt s x with
    | none => rfl
    | some v =>
      simp only [Option.bind_some]
      cases hp1 : ptrS v with
      | none => rfl
      | some q =>
        simp only [Option.bind_some]
        rw [hh (by simp [memClass]) x (by simp [Op.operands]) v q.1 q.2 hv hp1]
  case alloc t =>
    simp only [res]
    cases dst with
    | none => rfl
    | some d => simp only [Option.bind_some]; rw [hd d rfl]
  case box t x =>
    simp only [res]
    rw [valsOf_frame (hs x (by simp [Op.operands]))]
    cases dst with
    | none => rfl
    | some d => simp only [Option.bind_some]; rw [hd d rfl]
  case fieldAddr t x f => simp only [res]; rw [valsOf_frame (hs x (by simp [Op.operands]))]
  case field t x f => simp only [res]; rw [valsOf_frame (hs x (by simp [Op.operands]))]
  case build t parts =>
    simp only [res]
    rw [allParts_frame _ fun p hp t e => hs p.2 (by simp only [Op.operands, List.mem_map]; exact ⟨p, hp, rfl⟩) t e]
  case convert a b x => simp only [res]; rw [valsOf_frame (hs x (by simp [Op.operands]))]
  case call cl =>
    obtain ⟨callee, args, ats⟩ := cl
    cases callee with
    | value f =>
      simp only [res]
      rw [valsOf_frame (hs f (by simp [Op.operands, Call.operands])), allVals_frame _ fun p hp t e => hs p (by simp only [Op.operands, Call.operands, Array.toList_append, List.mem_append]; exact .inr hp) t e]
      cases dst with
      | none => rfl
      | some d => simp only [Option.bind_some]; rw [hd d rfl]
    | builtin b =>
      cases b
      case len =>
        simp only [res]
        rw [allVals_frame _ fun p hp t e => hs p (by simp only [Op.operands, Call.operands, Array.toList_append, List.mem_append]; exact .inr hp) t e]
      all_goals rfl
    | invoke r m => rfl
  all_goals rfl

theorem wantS_frame {nt : Nat} {ops : Array Oper} {s s' : Nat → SV K} {o : Oper} (h : ∀ d, d ∈ o.looksAt ops → s' d = s d) : wantS nt ops s' o = wantS nt ops s o := by
  unfold wantS
  split
  · rfl
  · rename_i j want hg
    split
    · rename_i t ht
      rw [h t (by simp [Oper.looksAt, hg, ht])]
    · rfl

def Eff.isPut : Eff K → Bool
  | .put _ _ _ => true
  | _ => false

def noPut (x : Option (Prop × SV K × Eff K)) : Prop := ∀ r, x = some r → r.2.2.isPut = false
theorem noPut_none : noPut (none : Option (Prop × SV K × Eff K)) := fun _ h => by cases h
theorem noPut_some {c : Prop} {v : SV K} {e : Eff K} (h : e.isPut = false) : noPut (some (c, v, e)) := fun r hr => by cases hr; exact h
theorem noPut_bind {α : Type} {x : Option α} {f : α → Option (Prop × SV K × Eff K)} (h : ∀ a, noPut (f a)) : noPut (x.bind f) := by
  cases x with
  | none => exact noPut_none
  | some a => exact h a
theorem noPut_map {α : Type} {x : Option α} {f : α → Prop × SV K × Eff K} (h : ∀ a, (f a).2.2.isPut = false) : noPut (x.map f) := by
  cases x with
  | none => exact noPut_none
  | some a => intro r hr; cases hr; exact h a
theorem noPut_cond {b : Bool} {x y : Option (Prop × SV K × Eff K)} (hx : noPut x) (hy : noPut y) : noPut (bif b then x else y) := by
  cases b
  · exact hy
  · exact hx

/-- only a store writes a variable -/
theorem eff_class {orc : Nat → Nat} {o : Oper} {s : Nat → SV K} {hp : Nat → Option (List (At K) × TypeId)} {dm : Nat → Bool} (h : memClass o ≠ 2) : noPut (res C orc o s hp dm) := by
  obtain ⟨dst, op, type, pos, after, guard⟩ := o
  cases op
  case store t x y => exact absurd rfl h
  case unOp u t x => cases u <;> simp only [res] <;> repeat (first | exact noPut_none | exact noPut_some rfl | exact noPut_map (fun _ => rfl) | refine noPut_cond ?_ ?_ | refine noPut_bind (fun _ => ?_))
  case call cl =>
    obtain ⟨callee, args, ats⟩ := cl
    cases callee with
    | value f => simp only [res]; repeat (first | exact noPut_none | exact noPut_some rfl | exact noPut_map (fun _ => rfl) | refine noPut_cond ?_ ?_ | refine noPut_bind (fun _ => ?_) | split)
    | builtin b => cases b <;> simp only [res] <;> repeat (first | exact noPut_none | exact noPut_some rfl | exact noPut_map (fun _ => rfl) | refine noPut_cond ?_ ?_ | refine noPut_bind (fun _ => ?_) | split)
    | invoke r m => exact noPut_none
  all_goals simp only [res]
  all_goals repeat (first | exact noPut_none | exact noPut_some rfl | exact noPut_map (fun _ => rfl) | refine noPut_cond ?_ ?_ | refine noPut_bind (fun _ => ?_) | split)

/-- may these two change places? -/
def indepB (ops : Array Oper) (x y : Oper) : Bool := x.apart ops y && memOK x y

theorem apart_symm {ops : Array Oper} {x y : Oper} (h : x.apart ops y = true) : y.apart ops x = true := by
  obtain ⟨h1, h2, h3⟩ := Oper.apart_spec h
  unfold Oper.apart
  have a1 : (match y.dst with | some d => !(x.looksAt ops).contains d && x.dst != some d | none => true) = true := by
    cases hy : y.dst with
    | none => rfl
    | some d =>
      have n1 := h3 d hy
      have n2 : x.dst ≠ some d := fun e => h2 d e hy
      simp [n1, n2]
  have a2 : (match x.dst with | some d => !(y.looksAt ops).contains d | none => true) = true := by
    cases hx : x.dst with
    | none => rfl
    | some d => simp [h1 d hx]
  exact Bool.and_eq_true_iff.2 ⟨a1, a2⟩

theorem memOK_symm {x y : Oper} (h : memOK x y = true) : memOK y x = true := by
  unfold memOK at *
  split at h <;> simp_all
  split <;> simp_all

theorem indep_symm {ops : Array Oper} {x y : Oper} (h : indepB ops x y = true) : indepB ops y x = true := by
  unfold indepB at *
  rw [Bool.and_eq_true] at *
  exact ⟨apart_symm h.1, memOK_symm h.2⟩

/-- what an operation comes to is the same behind another one that it doesn't hang on -/
theorem raw_frame (D : CtxD C) (h : Wf σ) {orc : Nat → Nat} {ops : Array Oper} {x y : Oper} (hi : indepB ops x y = true) {r : Prop × SV K × Eff K} (hx : raw C orc ops x σ = some r) :
    raw C orc ops y (app x r σ) = raw C orc ops y σ := by
  obtain ⟨c, v, e⟩ := r
  unfold indepB at hi
  rw [Bool.and_eq_true] at hi
  obtain ⟨h1, h2, h3⟩ := Oper.apart_spec hi.1
  obtain ⟨he, hv⟩ := raw_in D h hx
  have hslots : (e.app σ).slots = σ.slots := by cases e <;> rfl
  have hs : ∀ t, (∀ d, x.dst = some d → t ≠ d) → (app x (c, v, e) σ).slots t = σ.slots t := by
    intro t ht
    show (putS x.dst v (e.app σ)).slots t = _
    cases hd : x.dst with
    | none => simp only [putS, hslots]
    | some d => simp only [putS]; rw [upd_ne _ _ (ht d hd), hslots]
  have hdom : ∀ d, y.dst = some d → (app x (c, v, e) σ).dom d = σ.dom d := by
    intro d hd
    show (putS x.dst v (e.app σ)).dom d = _
    rw [putS_dom]
    cases e with
    | none => rfl
    | put id l t => rfl
    | new id l t =>
      have : d ≠ id := fun e => by subst e; exact h2 d he.1 hd
      exact upd_ne _ _ this
    | own id =>
      have : d ≠ id := fun e => by subst e; exact h2 d he.1 hd
      exact upd_ne _ _ this
  have hheap : memClass y ≠ 0 → ∀ id, σ.dom id = true → (app x (c, v, e) σ).heap id = σ.heap id := by
    intro hy id hid
    show (putS x.dst v (e.app σ)).heap id = _
    rw [putS_heap]
    cases e with
    | none => rfl
    | own d => rfl
    | new d l t =>
      have : id ≠ d := fun e => by subst e; rw [he.2.1] at hid; cases hid
      exact upd_ne _ _ this
    | put d l t =>
      exfalso
      have hx2 : memClass x = 2 := by
        by_cases hc : memClass x = 2
        · exact hc
        · exfalso
          unfold raw at hx
          cases hd : dstB C.nt x.dst with
          | false => rw [hd] at hx; cases hx
          | true =>
            rw [hd] at hx
            simp only [cond_true] at hx
            split at hx
            · have := eff_class hc _ hx
              cases this
            · cases hx
            · cases hx
      have hm := hi.2
      have hy12 : memClass y = 1 ∨ memClass y = 2 := by
        unfold memClass at hy ⊢
        split <;> simp_all
      unfold memOK at hm
      rcases hy12 with e | e <;> rw [hx2, e] at hm <;> cases hm
  unfold raw
  cases hd : dstB C.nt y.dst with
  | false => rfl
  | true =>
    simp only [cond_true]
    have hw : wantS C.nt ops (app x (c, v, e) σ).slots y = wantS C.nt ops σ.slots y := wantS_frame fun d hdl => hs d fun d' hd' e => by subst e; exact h1 _ hd' hdl
    rw [hw]
    have hres : res C orc y (app x (c, v, e) σ).slots (app x (c, v, e) σ).heap (app x (c, v, e) σ).dom = res C orc y σ.slots σ.heap σ.dom := by
      refine res_frame ?_ hdom ?_
      · intro z hz t ht
        subst ht
        exact hs t fun d' hd' e => by
          subst e
          exact h1 _ hd' (List.mem_append_left _ (List.mem_filterMap.2 ⟨.tmp t, by simpa using hz, rfl⟩))
      · intro hy z hz u id off hu hp
        have hin := valsOf_inD h hu
        rw [ptrS_spec hp] at hin
        exact hheap hy id (hin (.ptr id off) (by simp))
    rw [hres]

theorem app_comm (D : CtxD C) (h : Wf σ) {orc : Nat → Nat} {ops : Array Oper} {x y : Oper} (hi : indepB ops x y = true) {r q : Prop × SV K × Eff K} (hx : raw C orc ops x σ = some r) (hy : raw C orc ops y σ = some q) :
    app y q (app x r σ) = app x r (app y q σ) := by
  obtain ⟨c, v, e⟩ := r
  obtain ⟨c', v', e'⟩ := q
  unfold indepB at hi
  rw [Bool.and_eq_true] at hi
  obtain ⟨h1, h2, h3⟩ := Oper.apart_spec hi.1
  obtain ⟨he, _⟩ := raw_in D h hx
  obtain ⟨he', _⟩ := raw_in D h hy
  have hnp : e.isPut = true → e'.isPut = true → False := by
    intro p1 p2
    have cls : ∀ z r, raw C orc ops z σ = some r → r.2.2.isPut = true → memClass z = 2 := by
      intro z r hz hp
      by_cases hc : memClass z = 2
      · exact hc
      · exfalso
        unfold raw at hz
        cases hd : dstB C.nt z.dst with
        | false => rw [hd] at hz; cases hz
        | true =>
          rw [hd] at hz
          simp only [cond_true] at hz
          split at hz
          · have := eff_class hc _ hz
            rw [this] at hp; cases hp
          · simp only [Option.some.injEq] at hz
            subst hz
            cases hp
          · cases hz
    have hm := hi.2
    unfold memOK at hm
    rw [cls x _ hx p1, cls y _ hy p2] at hm
    cases hm
  have ext : ∀ s t : St K, s.slots = t.slots → s.heap = t.heap → s.dom = t.dom → s = t := by
    intro s t a b c; cases s; cases t; simp_all
  have sl : ∀ (e : Eff K) (s : St K), (e.app s).slots = s.slots := by intro e s; cases e <;> rfl
  refine ext _ _ ?_ ?_ ?_
  · show (putS y.dst v' (e'.app (putS x.dst v (e.app σ)))).slots = (putS x.dst v (e.app (putS y.dst v' (e'.app σ)))).slots
    cases hxd : x.dst with
    | none =>
      cases hyd : y.dst with
      | none => simp only [putS, sl]
      | some d => simp only [putS, sl]
    | some dx =>
      cases hyd : y.dst with
      | none => simp only [putS, sl]
      | some dy =>
        simp only [putS, sl]
        exact upd_comm _ _ _ fun e => by subst e; exact h2 _ hxd hyd
  · show (putS y.dst v' (e'.app (putS x.dst v (e.app σ)))).heap = (putS x.dst v (e.app (putS y.dst v' (e'.app σ)))).heap
    rw [putS_heap, putS_heap]
    have hp : ∀ (d : Option Nat) (v : SV K) (e : Eff K) (s : St K), (e.app (putS d v s)).heap = (e.app s).heap := by
      intro d v e s
      cases e <;> simp only [Eff.app, putS_heap]
    rw [hp, hp]
    cases e with
    | none => rfl
    | own i => cases e' <;> rfl
    | new i l t =>
      cases e' with
      | none => rfl
      | own j => rfl
      | new j l' t' => exact upd_comm _ _ _ fun e => by subst e; exact h2 _ he.1 he'.1
      | put j l' t' =>
        refine upd_comm _ _ _ fun e => ?_
        subst e
        obtain ⟨⟨l0, h0⟩, _⟩ := he'
        have := h.hdom i (by rw [h0]; rfl)
        rw [he.2.1] at this; cases this
    | put i l t =>
      cases e' with
      | none => rfl
      | own j => rfl
      | new j l' t' =>
        refine upd_comm _ _ _ fun e => ?_
        subst e
        obtain ⟨⟨l0, h0⟩, _⟩ := he
        have := h.hdom i (by rw [h0]; rfl)
        rw [he'.2.1] at this; cases this
      | put j l' t' => exact (hnp rfl rfl).elim
  · show (putS y.dst v' (e'.app (putS x.dst v (e.app σ)))).dom = (putS x.dst v (e.app (putS y.dst v' (e'.app σ)))).dom
    rw [putS_dom, putS_dom]
    have hp : ∀ (d : Option Nat) (v : SV K) (e : Eff K) (s : St K), (e.app (putS d v s)).dom = (e.app s).dom := by
      intro d v e s
      cases e <;> simp only [Eff.app, putS_dom]
    rw [hp, hp]
    have two : ∀ i j : Nat, x.dst = some i → y.dst = some j → upd (upd σ.dom i true) j true = upd (upd σ.dom j true) i true := fun i j hi hj =>
      upd_comm _ _ _ fun e => by subst e; exact h2 _ hi hj
    cases e with
    | none => rfl
    | put i l t => cases e' <;> rfl
    | own i =>
      cases e' with
      | none => rfl
      | put j l' t' => rfl
      | own j => exact two i j he.1 he'.1
      | new j l' t' => exact two i j he.1 he'.1
    | new i l t =>
      cases e' with
      | none => rfl
      | put j l' t' => rfl
      | own j => exact two i j he.1 he'.1
      | new j l' t' => exact two i j he.1 he'.1

end Go.Proofs.YtmjdmhelmgcanaaDoor

/- An evaluation of straight Go code: a statement, a piece of code, a function. -/
namespace Go.Proofs.YtmjdmhelmgcanaaDoor
open Go.RowKit
variable {K : Type} {P : Program} {C : Ctx K} {σ σ' : St K} {ρ ρ' : Env} {w0 w w' : World} {a : Act}

theorem Rep.wf (h : Rep C w0 ρ σ a w) : Wf σ :=
  ⟨fun i => SV.all_mono (fun _ hx => hx.inD) (h.okS i), fun id l t hl x hx => (h.okH id l t hl x hx).inD, h.hdom⟩

theorem Rep.drew (h : Rep C w0 ρ σ a w) (I : CtxInv C) : Rep C w0 ρ σ a { w with drawn := w.drawn + 1 } := by
  have hm : ∀ x, AtOK C σ ρ w x → AtOK C σ ρ { w with drawn := w.drawn + 1 } x := by
    intro x hx
    exact hx.mono I (fun _ h => h) (fun _ h => h) (fun _ _ => rfl) (Nat.le_refl _) (fun _ _ _ => rfl) (fun i hi => .inl ⟨hi, rfl⟩)
  exact ⟨h.size, h.defers, h.slots, ⟨h.below.os, h.below.tape, h.below.output, h.below.size, h.below.block⟩, h.cells, h.inj, fun i => SV.all_mono hm (h.okS i), fun id l t hl x hx => hm x (h.okH id l t hl x hx), h.hdom⟩

theorem wanted_of (h : Rep C w0 ρ σ a w) {ops : Array Oper} {o : Oper} {b : Bool} (hw : wantS C.nt ops σ.slots o = some b) : Region.wanted o (yielded ops a.tmps) = b := by
  unfold wantS at hw
  unfold Region.wanted
  cases hg : o.guard with
  | none => rw [hg] at hw; simpa using hw
  | some g =>
    obtain ⟨j, want⟩ := g
    rw [hg] at hw
    simp only [] at hw ⊢
    unfold yielded
    cases ht : (ops[j]?).bind (·.dst) with
    | none => rw [ht] at hw; simp only [Option.some.injEq] at hw; subst hw; rfl
    | some t =>
      rw [ht] at hw
      simp only [] at hw
      cases hb : Nat.blt t C.nt with
      | false => rw [hb] at hw; cases hw
      | true =>
        rw [hb] at hw
        simp only [cond_true] at hw
        have hlt : t < C.nt := Nat.le_of_ble_eq_true hb
        have hs := h.slots t hlt
        have hget : a.tmps[t]? = some (a.eval (.tmp t)) := by
          have hlt' : t < a.tmps.size := by rw [h.size]; exact hlt
          simp [Act.eval, hlt']
        simp only [Option.bind_some, hget, hs]
        split at hw
        · rename_i b' hsl
          simp only [Option.some.injEq] at hw
          subst hw
          rw [hsl]
          simp only [SV.den, denL, At.val]
          cases b' <;> cases want <;> rfl
        · rename_i hsl
          simp only [Option.some.injEq] at hw
          subst hw
          rw [hsl]
          rfl
        · cases hw

theorem raw_sound (OK : CtxOK P C) (h : Rep C w0 ρ σ a w) {orc : Nat → Nat} {ops : Array Oper} {i : Nat} {o : Oper} (hi : ops[i]? = some o) {r : Prop × SV K × Eff K} (hr : raw C orc ops o σ = some r) (hc : r.1)
    {K' : Act → World → Prop} {Q : Exit → Act → World → Prop} (hK : ∀ ρ' a' w', Rep C w0 ρ' (app o r σ) a' w' → K' a' w') : wpOp P ops Q i K' a w := by
  unfold wpOp
  simp only [hi]
  unfold raw at hr
  cases hd : dstB C.nt o.dst with
  | false => rw [hd] at hr; cases hr
  | true =>
    rw [hd] at hr
    simp only [cond_true] at hr
    have hdst : dstIn C.nt o.dst := by
      cases hx : o.dst with
      | none => trivial
      | some d => rw [hx] at hd; exact Nat.le_of_ble_eq_true hd
    split at hr
    · rename_i hw
      rw [wanted_of h hw]
      simp only [if_true]
      obtain ⟨c, v, e⟩ := r
      exact .inl (res_sound OK h hr hc hdst hK)
    · rename_i hw
      rw [wanted_of h hw]
      simp only [Option.some.injEq] at hr
      subst hr
      simp only [Bool.false_eq_true, if_false]
      exact hK ρ _ _ (h.put (v := .tup []) hdst fun m hm => by cases hm)
    · cases hr

/-- the operations of a statement, one behind the other -/
def runL (C : Ctx K) (orc : Nat → Nat) (ops : Array Oper) : List Oper → St K → Option (List Prop × St K)
  | [], σ => some ([], σ)
  | o :: l, σ => (raw C orc ops o σ).bind fun r => (runL C orc ops l (app o r σ)).map fun q => (r.1 :: q.1, q.2)

def conj : List Prop → Prop
  | [] => True
  | p :: l => p ∧ conj l
theorem conj_append : ∀ (l m : List Prop), conj (l ++ m) ↔ conj l ∧ conj m
  | [], m => by simp [conj]
  | p :: l, m => by simp [conj, conj_append l m, and_assoc]

theorem runL_sound (OK : CtxOK P C) {orc : Nat → Nat} {ops : Array Oper} {Q : Exit → Act → World → Prop} : ∀ (l : List Oper) (k : Nat) (σ : St K) (ρ : Env) (a : Act) (w : World), (∀ j, l[j]? = ops[k + j]?) →
    ∀ cs σ', runL C orc ops l σ = some (cs, σ') → conj cs → Rep C w0 ρ σ a w → (∀ ρ' a' w', Rep C w0 ρ' σ' a' w' → Q .normal a' w') →
    wpOps P ops Q ((List.range l.length).map (k + ·)) a w
  | [], k, σ, ρ, a, w, _, cs, σ', hr, _, h, hQ => by
    simp only [runL, Option.some.injEq, Prod.mk.injEq] at hr
    obtain ⟨_, rfl⟩ := hr
    exact hQ _ _ _ h
  | o :: l, k, σ, ρ, a, w, hl, cs, σ', hr, hc, h, hQ => by
    simp only [runL] at hr
    obtain ⟨r, h1, hr⟩ := Option.bind_eq_some_iff.1 hr
    obtain ⟨q, h2, h3⟩ := Option.map_eq_some_iff.1 hr
    simp only [Prod.mk.injEq] at h3
    obtain ⟨rfl, rfl⟩ := h3
    have h0 : ops[k]? = some o := by simpa using (hl 0).symm
    have hlist : (List.range (o :: l).length).map (k + ·) = k :: (List.range l.length).map (k + 1 + ·) := by
      rw [List.length_cons, List.range_succ_eq_map]
      simp only [List.map_cons, Nat.add_zero, List.map_map, List.cons.injEq, true_and]
      congr 1
      funext x
      simp only [Function.comp_apply]
      omega
    rw [hlist, wpOps_cons]
    refine raw_sound OK h h0 h1 hc.1 fun ρ' a' w' h' => ?_
    exact runL_sound OK l (k + 1) _ ρ' a' w' (fun j => by have := hl (j + 1); simpa [Nat.add_assoc, Nat.add_comm 1 j] using this) q.1 q.2 h2 hc.2 h' hQ

theorem region_sound (OK : CtxOK P C) {orc : Nat → Nat} {ops : Array Oper} {id : Nat} {Q : Exit → Act → World → Prop} {cs : List Prop} (hr : runL C orc ops ops.toList σ = some (cs, σ')) (hc : conj cs)
    (h : Rep C w0 ρ σ a w) (hQ : ∀ ρ' a' w', Rep C w0 ρ' σ' a' w' → Q .normal a' w') : (Code.region id ops false).wp P Q a w := by
  refine wp_region ?_
  have := runL_sound OK (Q := Q) ops.toList 0 σ ρ a w (fun j => by simp) cs σ' hr hc h hQ
  simpa using this

/-- every order comes to an end that fits -/
def absAny (C : Ctx K) (orc : Nat → Nat) (md : Region.Mode) (ops : Array Oper) (R : St K → Prop) : Nat → Array Bool → St K → Prop
  | 0, listed, σ => Region.ready md ops listed = [] ∧ R σ
  | f + 1, listed, σ => (Region.ready md ops listed = [] → R σ) ∧
    ∀ i ∈ Region.ready md ops listed, ∃ o r, ops[i]? = some o ∧ raw C orc ops o σ = some r ∧ r.1 ∧ absAny C orc md ops R f (listed.setIfInBounds i true) (app o r σ)

theorem wpAny_of_abs (OK : CtxOK P C) {orc : Nat → Nat} {md : Region.Mode} {ops : Array Oper} {R : St K → Prop} {Q : Exit → Act → World → Prop} (hQ : ∀ σ ρ a w, R σ → Rep C w0 ρ σ a w → Q .normal a w) :
    ∀ (f : Nat) (listed : Array Bool) (σ : St K) (ρ : Env) (a : Act) (w : World), absAny C orc md ops R f listed σ → Rep C w0 ρ σ a w → wpAny P md ops Q f listed a w
  | 0, listed, σ, ρ, a, w, h, hr => ⟨h.1, hQ _ _ _ _ h.2 hr⟩
  | f + 1, listed, σ, ρ, a, w, h, hr => by
    refine ⟨fun h0 => hQ _ _ _ _ (h.1 h0) hr, fun i hi => ?_⟩
    obtain ⟨o, r, ho, hraw, hc, hrest⟩ := h.2 i hi
    exact raw_sound OK hr ho hraw hc fun ρ' a' w' h' => wpAny_of_abs OK hQ f _ _ ρ' a' w' hrest h'

/-- an operation that may come now, and hangs together with none of those that needn't wait for it, may come first -/
theorem absAny_first (D : CtxD C) {orc : Nat → Nat} {md : Region.Mode} {ops : Array Oper} {R : St K → Prop} {i : Nat} {oi : Oper} {r : Prop × SV K × Eff K} (hi : ops[i]? = some oi) :
    ∀ (f : Nat) (listed : Array Bool) (σ : St K), Wf σ →
      (∀ (j : Nat) (oj : Oper), ops[j]? = some oj → j ≠ i → listed.getD j true = false → (∀ e ∈ oj.after, Region.binds md e = true → e.on ≠ i) → indepB ops oi oj = true) →
      i ∈ Region.ready md ops listed → raw C orc ops oi σ = some r → r.1 →
      absAny C orc md ops R f (listed.setIfInBounds i true) (app oi r σ) → absAny C orc md ops R (f + 1) listed σ := by
  intro f
  induction f with
  | zero =>
    intro listed σ hwf _ hr hraw hc H
    refine ⟨fun h => (by rw [h] at hr; cases hr), fun j hj => ?_⟩
    by_cases hji : j = i
    · subst hji; exact ⟨oi, r, hi, hraw, hc, H⟩
    · have := ready_mono hj hji
      rw [H.1] at this
      cases this
  | succ f ih =>
    intro listed σ hwf hfree hr hraw hc H
    refine ⟨fun h => (by rw [h] at hr; cases hr), fun j hj => ?_⟩
    by_cases hji : j = i
    · subst hji; exact ⟨oi, r, hi, hraw, hc, H⟩
    · obtain ⟨oj, q, hoj, hrawj, hcj, hrest⟩ := H.2 j (ready_mono hj hji)
      obtain ⟨hjun, oj', hoj', hall⟩ := mem_ready.1 hj
      have : oj' = oj := Option.some.inj (hoj'.symm.trans hoj)
      subst this
      have hnot : ∀ e ∈ oj'.after, Region.binds md e = true → e.on ≠ i := fun e he hb heq => by
        have h1 := hall e he hb
        have h0 := (mem_ready.1 hr).1
        rw [heq] at h1
        rcases Nat.lt_or_ge i listed.size with h' | h'
        · simp [h'] at h0 h1; rw [h0] at h1; cases h1
        · simp [Array.getElem?_eq_none h'] at h1
      have hind := hfree j oj' hoj hji hjun hnot
      have hq : raw C orc ops oj' σ = some q := by rw [← raw_frame D hwf hind hraw]; exact hrawj
      have hr2 : raw C orc ops oi (app oj' q σ) = some r := by rw [raw_frame D hwf (indep_symm hind) hq]; exact hraw
      have hcomm := app_comm D hwf hind hraw hq
      refine ⟨oj', q, hoj, hq, hcj, ?_⟩
      have hwf' : Wf (app oj' q σ) := by
        obtain ⟨h1, h2⟩ := raw_in D hwf hq
        exact app_wf hwf h1 h2
      refine ih (listed.setIfInBounds j true) _ hwf' ?_ (ready_mono hr (Ne.symm hji)) hr2 hc ?_
      · intro k ok hk hki hun hno
        refine hfree k ok hk hki ?_ hno
        by_cases hjk : j = k
        · subst hjk; exact hjun
        · rw [getD_set_ne true hjk] at hun; exact hun
      · rw [Array.setIfInBounds_comm _ _ hji, ← hcomm]
        exact hrest

/-- the order of the text will do: what the evaluation looks at -/
def freeI (ops : Array Oper) (listed : Array Bool) (i : Nat) : Bool :=
  match ops[i]? with
  | none => false
  | some oi => (List.range ops.size).all fun j => j == i || listed.getD j true || match ops[j]? with
      | some oj => oj.after.any (fun e => Region.binds .any e && e.on == i) || indepB ops oi oj
      | none => true

def lexI (ops : Array Oper) : Nat → Nat → Array Bool → Bool
  | 0, _, listed => (Region.ready .any ops listed).isEmpty
  | f + 1, k, listed => (Region.ready .any ops listed).contains k && freeI ops listed k && lexI ops f (k + 1) (listed.setIfInBounds k true)

theorem freeI_spec {ops : Array Oper} {i : Nat} {oi : Oper} {listed : Array Bool} (hi : ops[i]? = some oi) (h : freeI ops listed i = true) (j : Nat) (oj : Oper)
    (hj : ops[j]? = some oj) (hne : j ≠ i) (hun : listed.getD j true = false) (hno : ∀ e ∈ oj.after, Region.binds .any e = true → e.on ≠ i) : indepB ops oi oj = true := by
  simp only [freeI, hi, List.all_eq_true, List.mem_range] at h
  have h1 := h j (Array.getElem?_eq_some_iff.1 hj).1
  simp only [hj, Bool.or_eq_true, beq_iff_eq, hne, false_or, hun, Bool.false_eq_true] at h1
  rcases h1 with h1 | h1
  · obtain ⟨e, he, hb⟩ := Array.any_eq_true'.1 h1
    simp only [Bool.and_eq_true, beq_iff_eq] at hb
    exact absurd hb.2 (hno e he hb.1)
  · exact h1

theorem abs_of_lex (D : CtxD C) {orc : Nat → Nat} {ops : Array Oper} : ∀ (l : List Oper) (k : Nat) (listed : Array Bool) (σ : St K), Wf σ → (∀ j, l[j]? = ops[k + j]?) → lexI ops l.length k listed = true →
    ∀ cs σ', runL C orc ops l σ = some (cs, σ') → conj cs → absAny C orc .any ops (fun s => s = σ') l.length listed σ
  | [], k, listed, σ, hwf, hl, hB, cs, σ', hr, _ => by
    simp only [runL, Option.some.injEq, Prod.mk.injEq] at hr
    obtain ⟨_, rfl⟩ := hr
    exact ⟨by simpa [lexI] using hB, rfl⟩
  | o :: l, k, listed, σ, hwf, hl, hB, cs, σ', hr, hc => by
    simp only [runL] at hr
    obtain ⟨r, h1, hr⟩ := Option.bind_eq_some_iff.1 hr
    obtain ⟨q, h2, h3⟩ := Option.map_eq_some_iff.1 hr
    simp only [Prod.mk.injEq] at h3
    obtain ⟨rfl, rfl⟩ := h3
    have h0 : ops[k]? = some o := by simpa using (hl 0).symm
    simp only [List.length_cons, lexI, Bool.and_eq_true] at hB
    obtain ⟨⟨hrd, hf⟩, hB'⟩ := hB
    have hwf' : Wf (app o r σ) := by
      obtain ⟨h4, h5⟩ := raw_in D hwf h1
      exact app_wf hwf h4 h5
    exact absAny_first D h0 l.length listed σ hwf (freeI_spec h0 hf) (by simpa using hrd) h1 hc.1
      (abs_of_lex D l (k + 1) _ _ hwf' (fun j => by have := hl (j + 1); simpa [Nat.add_assoc, Nat.add_comm 1 j] using this) hB' q.1 q.2 h2 hc.2)

theorem region_draw_sound (OK : CtxOK P C) (D : CtxD C) (hm : P.follows .mixedOrders = true) {orc : Nat → Nat} {ops : Array Oper} {id : Nat} {Q : Exit → Act → World → Prop} {cs : List Prop}
    (hB : lexI ops ops.size 0 (Array.replicate ops.size false) = true) (hr : runL C orc ops ops.toList σ = some (cs, σ')) (hc : conj cs)
    (h : Rep C w0 ρ σ a w) (hQ : ∀ ρ' a' w', Rep C w0 ρ' σ' a' w' → Q .normal a' w') : (Code.region id ops true).wp P Q a w := by
  refine wp_region_any hm ?_
  have habs := abs_of_lex D ops.toList 0 (Array.replicate ops.size false) σ h.wf (fun j => by simp) (by simpa using hB) cs σ' hr hc
  have := wpAny_of_abs OK (Q := Q) (w0 := w0) (fun s ρ a w hs hrep => by subst hs; exact hQ _ _ _ hrep) _ _ σ ρ a _ habs (h.drew OK.toCtxInv)
  simpa using this

end Go.Proofs.YtmjdmhelmgcanaaDoor

/- An evaluation of straight Go code: a piece of code, a function. -/
namespace Go.Proofs.YtmjdmhelmgcanaaDoor
open Go.RowKit
variable {K : Type} {P : Program} {C : Ctx K} {σ σ' : St K} {ρ ρ' : Env} {w0 w w' : World} {a : Act}

inductive Out where
  | norm
  | exit (id : Nat)
  | ret

def Out.to : Out → Exit
  | .norm => .normal
  | .exit id => .exit id
  | .ret => .ret

def Out.inBlock (id : Nat) : Out → Out
  | .exit i => bif Nat.beq i id then .norm else .exit i
  | o => o

def loopN (f : St K → Option (List Prop × Out × St K)) : Nat → St K → Option (List Prop × Out × St K)
  | 0, _ => none
  | n + 1, σ => (f σ).bind fun q => match q.2.1 with
    | .norm => (loopN f n q.2.2).map fun q' => (q.1 ++ q'.1, q'.2)
    | _ => some q

def evalC (C : Ctx K) (orc : Nat → Nat) : Code → St K → Option (List Prop × Out × St K)
  | .skip, σ => some ([], .norm, σ)
  | .region _ ops draw, σ => bif draw && !lexI ops ops.size 0 (Array.replicate ops.size false) then none else (runL C orc ops ops.toList σ).map fun q => (q.1, .norm, q.2)
  | .seq x y, σ => (evalC C orc x σ).bind fun q => match q.2.1 with
    | .norm => (evalC C orc y q.2.2).map fun q' => (q.1 ++ q'.1, q'.2)
    | _ => some q
  | .cond c x y, σ => (valsOf C.nt σ.slots c).bind fun v => (boolS v).bind fun b => bif b then evalC C orc x σ else evalC C orc y σ
  | .block id x, σ => (evalC C orc x σ).map fun q => (q.1, q.2.1.inBlock id, q.2.2)
  | .loop x, σ => loopN (fun s => evalC C orc x s) 64 σ
  | .exit id, σ => some ([], .exit id, σ)
  | .ret, σ => some ([], .ret, σ)
  | _, _ => none

theorem evalC_sound (OK : CtxOK P C) (D : CtxD C) (hm : P.follows .mixedOrders = true) {orc : Nat → Nat} : ∀ (c : Code) (σ : St K) (ρ : Env) (a : Act) (w : World) (Q : Exit → Act → World → Prop) (cs : List Prop) (o : Out) (σ' : St K),
    evalC C orc c σ = some (cs, o, σ') → conj cs → Rep C w0 ρ σ a w → (∀ ρ' a' w', Rep C w0 ρ' σ' a' w' → Q o.to a' w') → c.wp P Q a w := by
  intro c
  induction c with
  | skip =>
    intro σ ρ a w Q cs o σ' h hc hr hQ
    simp only [evalC, Option.some.injEq, Prod.mk.injEq] at h
    obtain ⟨_, rfl, rfl⟩ := h
    exact wp_skip (hQ ρ _ _ hr)
  | region id ops draw =>
    intro σ ρ a w Q cs o σ' h hc hr hQ
    simp only [evalC] at h
    cases draw with
    | false =>
      simp only [Bool.false_and, cond_false] at h
      obtain ⟨q, h1, h2⟩ := Option.map_eq_some_iff.1 h
      simp only [Prod.mk.injEq] at h2
      obtain ⟨rfl, rfl, rfl⟩ := h2
      exact region_sound OK h1 hc hr hQ
    | true =>
      cases hB : lexI ops ops.size 0 (Array.replicate ops.size false) with
      | false => rw [hB] at h; cases h
      | true =>
        rw [hB] at h
        simp only [Bool.not_true, Bool.and_false, cond_false] at h
        obtain ⟨q, h1, h2⟩ := Option.map_eq_some_iff.1 h
        simp only [Prod.mk.injEq] at h2
        obtain ⟨rfl, rfl, rfl⟩ := h2
        exact region_draw_sound OK D hm hB h1 hc hr hQ
  | seq x y ihx ihy =>
    intro σ ρ a w Q cs o σ' h hc hr hQ
    simp only [evalC] at h
    obtain ⟨⟨cs1, o1, σ1⟩, h1, h2⟩ := Option.bind_eq_some_iff.1 h
    refine wp_seq ?_
    cases o1 with
    | norm =>
      obtain ⟨⟨cs2, o2, σ2⟩, h3, h4⟩ := Option.map_eq_some_iff.1 h2
      simp only [Prod.mk.injEq] at h4
      obtain ⟨rfl, rfl, rfl⟩ := h4
      rw [conj_append] at hc
      exact ihx σ ρ a w _ cs1 .norm σ1 h1 hc.1 hr fun ρ' a' w' h' => ihy σ1 ρ' a' w' Q cs2 o2 σ2 h3 hc.2 h' hQ
    | exit id =>
      simp only [Option.some.injEq, Prod.mk.injEq] at h2
      obtain ⟨rfl, rfl, rfl⟩ := h2
      exact ihx σ ρ a w _ cs1 (.exit id) σ1 h1 hc hr fun ρ' a' w' h' => hQ ρ' a' w' h'
    | ret =>
      simp only [Option.some.injEq, Prod.mk.injEq] at h2
      obtain ⟨rfl, rfl, rfl⟩ := h2
      exact ihx σ ρ a w _ cs1 .ret σ1 h1 hc hr fun ρ' a' w' h' => hQ ρ' a' w' h'
  | cond c x y ihx ihy =>
    intro σ ρ a w Q cs o σ' h hc hr hQ
    simp only [evalC] at h
    obtain ⟨v, h1, h⟩ := Option.bind_eq_some_iff.1 h
    obtain ⟨b, h2, h⟩ := Option.bind_eq_some_iff.1 h
    obtain ⟨e1, _⟩ := valsOf_spec hr h1
    rw [boolS_spec h2] at e1
    have e1' : a.eval c = .bool b := e1
    cases b with
    | true => exact wp_cond_true e1' (ihx σ ρ a w Q cs o σ' h hc hr hQ)
    | false => exact wp_cond_false e1' (ihy σ ρ a w Q cs o σ' h hc hr hQ)
  | block id x ih =>
    intro σ ρ a w Q cs o σ' h hc hr hQ
    simp only [evalC] at h
    obtain ⟨⟨cs1, o1, σ1⟩, h1, h2⟩ := Option.map_eq_some_iff.1 h
    simp only [Prod.mk.injEq] at h2
    obtain ⟨rfl, rfl, rfl⟩ := h2
    refine wp_block (ih σ ρ a w _ cs1 o1 σ1 h1 hc hr fun ρ' a' w' h' => ?_)
    have := hQ ρ' a' w' h'
    cases o1 with
    | norm => exact this
    | ret => exact this
    | exit i =>
      show Exit.inBlock id Q (.exit i) a' w'
      cases hb : Nat.beq i id with
      | true =>
        have hi : i = id := Nat.eq_of_beq_eq_true hb
        simp only [Out.inBlock, hb, cond_true, Out.to] at this
        simp only [Exit.inBlock, hi, if_true]
        exact this
      | false =>
        have hi : i ≠ id := fun e => by subst e; simp at hb
        simp only [Out.inBlock, hb, cond_false, Out.to] at this
        simp only [Exit.inBlock, hi, if_false]
        exact this
  | loop x ih =>
    intro σ ρ a w Q cs o σ' h hc hr hQ
    simp only [evalC] at h
    refine wp_loop_rounds 64 ?_
    have key : ∀ (n : Nat) (σ : St K) (ρ : Env) (a : Act) (w : World) (cs : List Prop), loopN (fun s => evalC C orc x s) n σ = some (cs, o, σ') → conj cs → Rep C w0 ρ σ a w → Code.rounds P x Q n a w := by
      intro n
      induction n with
      | zero => intro σ ρ a w cs h; cases h
      | succ n ihn =>
        intro σ ρ a w cs h hc hr
        simp only [loopN] at h
        obtain ⟨⟨cs1, o1, σ1⟩, h1, h2⟩ := Option.bind_eq_some_iff.1 h
        rw [rounds_succ]
        cases o1 with
        | norm =>
          obtain ⟨⟨cs2, o2, σ2⟩, h3, h4⟩ := Option.map_eq_some_iff.1 h2
          simp only [Prod.mk.injEq] at h4
          obtain ⟨rfl, rfl, rfl⟩ := h4
          rw [conj_append] at hc
          exact ih σ ρ a w _ cs1 .norm σ1 h1 hc.1 hr fun ρ' a' w' h' => ihn σ1 ρ' a' w' cs2 h3 hc.2 h'
        | exit id =>
          simp only [Option.some.injEq, Prod.mk.injEq] at h2
          obtain ⟨rfl, rfl, rfl⟩ := h2
          exact ih σ ρ a w _ cs1 (.exit id) σ1 h1 hc hr fun ρ' a' w' h' => hQ ρ' a' w' h'
        | ret =>
          simp only [Option.some.injEq, Prod.mk.injEq] at h2
          obtain ⟨rfl, rfl, rfl⟩ := h2
          exact ih σ ρ a w _ cs1 .ret σ1 h1 hc hr fun ρ' a' w' h' => hQ ρ' a' w' h'
    exact key 64 σ ρ a w cs h hc hr
  | exit id =>
    intro σ ρ a w Q cs o σ' h hc hr hQ
    simp only [evalC, Option.some.injEq, Prod.mk.injEq] at h
    obtain ⟨_, rfl, rfl⟩ := h
    exact wp_exit (hQ ρ _ _ hr)
  | ret =>
    intro σ ρ a w Q cs o σ' h hc hr hQ
    simp only [evalC, Option.some.injEq, Prod.mk.injEq] at h
    obtain ⟨_, rfl, rfl⟩ := h
    exact wp_ret (hQ ρ _ _ hr)
  | rangeFunc => intro σ ρ a w Q cs o σ' h; cases h
  | scope => intro σ ρ a w Q cs o σ' h; cases h
  | label => intro σ ρ a w Q cs o σ' h; cases h
  | goto => intro σ ρ a w Q cs o σ' h; cases h
  | refuse => intro σ ρ a w Q cs o σ' h; cases h

/-- where the results are -/
def resOf (C : Ctx K) (σ : St K) : ResultVar → Option (List (At K))
  | .tmp t => bif Nat.blt t C.nt then oneS (σ.slots t) else none
  | .cell p t => bif Nat.blt p C.nt then (ptrS (σ.slots p)).bind fun q => bif Nat.beq q.2 0 then (σ.heap q.1).bind fun lt => (C.size t).bind fun n =>
      bif Nat.beq n (sizeL lt.1) && (isAggL lt.1 == C.agg t) then some lt.1 else none else none else none

def oneRes (r : ResultVar) (tmps : Array Value) : Sem Value :=
  match r with
  | .tmp t => pure (tmps.getD t undef)
  | .cell a t => do loadVar t (← asAddr (tmps.getD a undef))

theorem oneRes_run (OK : CtxOK P C) (h : Rep C w0 ρ σ a w) {r : ResultVar} {l : List (At K)} (hr : resOf C σ r = some l) : (oneRes r a.tmps).run P w = .ok (denL ρ l) w ∧ ∀ x ∈ l, AtOK C σ ρ w x := by
  cases r with
  | tmp t =>
    simp only [resOf] at hr
    cases hb : Nat.blt t C.nt with
    | false => rw [hb] at hr; cases hr
    | true =>
      rw [hb] at hr
      have h1 := oneS_spec ((cond_true _ _).symm.trans hr)
      have h2 := h.slots t (Nat.le_of_ble_eq_true hb)
      have h3 := h.okS t
      rw [h1] at h2 h3
      refine ⟨?_, h3⟩
      have h2' : a.tmps.getD t undef = denL ρ l := h2
      simp only [oneRes, h2']
      rfl
  | cell p t =>
    simp only [resOf] at hr
    cases hb : Nat.blt p C.nt with
    | false => rw [hb] at hr; cases hr
    | true =>
      rw [hb] at hr
      obtain ⟨⟨id, off⟩, h1, hr⟩ := Option.bind_eq_some_iff.1 ((cond_true _ _).symm.trans hr)
      cases hoff : Nat.beq off 0 with
      | false => simp only [hoff, cond_false, reduceCtorEq] at hr
      | true =>
        simp only [hoff, cond_true] at hr
        obtain rfl : off = 0 := Nat.eq_of_beq_eq_true hoff
        obtain ⟨⟨m, ty⟩, h3, hr⟩ := Option.bind_eq_some_iff.1 hr
        obtain ⟨n, h4, hr⟩ := Option.bind_eq_some_iff.1 hr
        cases hg : (Nat.beq n (sizeL m) && (isAggL m == C.agg t)) with
        | false => simp only [hg, cond_false, reduceCtorEq] at hr
        | true =>
          simp only [hg, cond_true, Option.some.injEq] at hr
          subst hr
          rw [Bool.and_eq_true] at hg
          have hn : n = sizeL m := Nat.eq_of_beq_eq_true hg.1
          have hg' : isAggL m = C.agg t := by simpa using hg.2
          have h2 := h.slots p (Nat.le_of_ble_eq_true hb)
          rw [ptrS_spec h1] at h2
          have h2' : a.tmps.getD p undef = .pointer (some ⟨ρ.b id, 0, none⟩) := h2
          obtain ⟨hB, hcell⟩ := h.cells id m ty h3
          refine ⟨?_, h.okH id m ty h3⟩
          have hread : ∀ j v, (cellsL ρ m)[j]? = some v → w.cell? ((⟨ρ.b id, 0, none⟩ : Addr).add j) = some v := by
            intro j v hv
            have hadd : (⟨ρ.b id, 0, none⟩ : Addr).add j = ⟨ρ.b id, j, none⟩ := by unfold Addr.add; split <;> simp_all
            rw [hadd, cell_of_row w _ _ _ _ _ hcell]
            simpa using hv
          have hload : (loadVar t ⟨ρ.b id, 0, none⟩).run P w = .ok (denL ρ m) w := by
            unfold loadVar
            rw [Sem.run_bind, OK.agg t n h4 w, ← hg']
            cases hgm : isAggL m with
            | true =>
              have := run_loadCells_list (P := P) w ⟨ρ.b id, 0, none⟩ (cellsL ρ m) hread
              rw [cellsL_length, ← hn] at this
              simp [Result.andThen, Sem.run_bind, OK.size t n h4 w, this, denL_agg _ hgm]
            | false =>
              obtain ⟨y, rfl, e2, e3, _⟩ := denL_one ρ hgm
              have := hread 0 (y.val ρ) (by rw [e3]; rfl)
              have h0 : (⟨ρ.b id, 0, none⟩ : Addr).add 0 = ⟨ρ.b id, 0, none⟩ := by simp [Addr.add]
              rw [h0] at this
              simp [Result.andThen, load, Sem.run, this, e2]
          simp only [oneRes, h2']
          simp [asAddr, hload]

def resAll (C : Ctx K) (σ : St K) : List ResultVar → Option (SV K)
  | [r] => (resOf C σ r).map .one
  | [r, s] => (resOf C σ r).bind fun x => (resOf C σ s).map fun y => .tup [x, y]
  | _ => none

theorem resAll_run (OK : CtxOK P C) (h : Rep C w0 ρ σ a w) {fn : Func} {v : SV K} (hr : resAll C σ fn.results.toList = some v) : (results fn a.tmps).run P w = .ok (v.den ρ) w ∧ v.all (AtOK C σ ρ w) := by
  unfold resAll at hr
  split at hr
  · rename_i r hl
    obtain ⟨l, h1, rfl⟩ := Option.map_eq_some_iff.1 hr
    obtain ⟨h2, h3⟩ := oneRes_run OK h h1
    have hfn : fn.results = #[r] := by apply Array.ext'; simpa using hl
    refine ⟨?_, h3⟩
    unfold results
    rw [hfn]
    have : (oneRes r a.tmps).run P w = .ok (denL ρ l) w := h2
    cases r <;> simp only [oneRes] at this <;> simp [SV.den] <;> simpa using this
  · rename_i r s hl
    obtain ⟨x, h1, hr⟩ := Option.bind_eq_some_iff.1 hr
    obtain ⟨y, h1', rfl⟩ := Option.map_eq_some_iff.1 hr
    obtain ⟨h2, h3⟩ := oneRes_run OK h h1
    obtain ⟨h2', h3'⟩ := oneRes_run OK h h1'
    have hfn : fn.results = #[r, s] := by apply Array.ext'; simpa using hl
    refine ⟨?_, ?_⟩
    · have e1 : (oneRes r a.tmps).run P w = .ok (denL ρ x) w := h2
      have e2 : (oneRes s a.tmps).run P w = .ok (denL ρ y) w := h2'
      have : (results fn a.tmps).run P w = (do let u ← oneRes r a.tmps; let v ← oneRes s a.tmps; pure (.tuple #[u, v]) : Sem Value).run P w := by
        unfold results
        rw [hfn]
        cases r <;> cases s <;> simp [oneRes]
      rw [this]
      simp [e1, e2, SV.den]
    · intro m hm
      simp only [List.mem_cons, List.not_mem_nil, or_false] at hm
      rcases hm with rfl | rfl
      · exact h3
      · exact h3'
  · cases hr

/-- the state in which a call begins -/
def start (args : List (SV K)) : St K := { slots := fun i => (args[i]?).getD (.tup []), heap := fun _ => none, dom := fun i => Nat.ble 1000 i }

/-- What a function comes to. -/
def evalF (C : Ctx K) (orc : Nat → Nat) (fn : Func) (args : List (SV K)) : Option (List Prop × SV K) :=
  bif Nat.ble args.length C.nt then (fn.body.bind fun c => (evalC C orc c (start args)).bind fun q => match q.2.1 with
    | .exit _ => none
    | _ => (resAll C q.2.2 fn.results.toList).map fun v => (q.1, v)) else none

/-- what a function is handed -/
def InOK (C : Ctx K) (ρ : Env) (w : World) : At K → Prop
  | .big n x => x < pw n
  | .obj id k => 1000 ≤ id ∧ C.inv k (ρ.v id) w ∧ ∀ b, (ρ.v id).ownBlock = some b → b < w.heap.size
  | .ptr _ _ => False
  | _ => True

theorem fn_sound (OK : CtxOK P C) (D : CtxD C) (hm : P.follows .mixedOrders = true) {orc : Nat → Nat} {f : FuncId} {fn : Func} (hf : P.funcs[f]? = some fn) (hnt : fn.ntmps = C.nt) {args : List (SV K)} {cs : List Prop} {v : SV K}
    (he : evalF C orc fn args = some (cs, v)) (hc : conj cs) (ρ : Env) (w : World) (hargs : ∀ s ∈ args, s.all (InOK C ρ w)) :
    Calls P f (args.map (SV.den ρ)).toArray w fun e w' => Below w.heap.size w w' ∧ ∃ ρ', e = .returned (v.den ρ') := by
  unfold evalF at he
  cases hlen : Nat.ble args.length C.nt with
  | false => rw [hlen] at he; cases he
  | true =>
    rw [hlen] at he
    have hlen' : args.length ≤ C.nt := Nat.le_of_ble_eq_true hlen
    obtain ⟨c, hb, he⟩ := Option.bind_eq_some_iff.1 ((cond_true _ _).symm.trans he)
    obtain ⟨⟨cs1, o, σ1⟩, h1, h2⟩ := Option.bind_eq_some_iff.1 he
    have hrep : Rep C w ρ (start args) { tmps := (args.map (SV.den ρ)).toArray ++ Array.replicate (fn.ntmps - (args.map (SV.den ρ)).toArray.size) undef, defers := [] } w := by
      have hin : ∀ x : At K, InOK C ρ w x → AtOK C (start args) ρ w x := by
        intro x hx
        cases x with
        | big n x => exact hx
        | ptr id off => exact hx.elim
        | obj id k => exact ⟨Nat.ble_eq_true_of_le hx.1, hx.2.1, fun b hb => ⟨hx.2.2 b hb, fun i hi => (by cases hi)⟩⟩
        | _ => trivial
      refine ⟨?_, rfl, ?_, Below.refl _ _, fun id l t h => (by cases h), fun i j h => (by cases h), ?_, fun id l t h => (by cases h), fun id h => (by cases h)⟩
      · simp only [Array.size_append, List.size_toArray, List.length_map, Array.size_replicate]; omega
      · intro i hi
        simp only [Act.eval, start]
        by_cases hlt : i < args.length
        · simp [Array.getElem?_append, hlt]
        · have hn : args[i]? = none := by simp; omega
          have : i - args.length < fn.ntmps - args.length := by omega
          simp [Array.getElem?_append, hlt, this, SV.den, undef]
      · intro i
        simp only [start]
        cases ha : args[i]? with
        | none => intro m hm; cases hm
        | some s => exact SV.all_mono hin (hargs s (List.mem_of_getElem? ha))
    have fin : ∀ (σ' : St K) (v : SV K), resAll C σ' fn.results.toList = some v → ∀ (ρ' : Env) (a' : Act) (w' : World), Rep C w ρ' σ' a' w' →
        a'.defers = [] ∧ ∃ u, (results fn a'.tmps).run P w' = .ok u w' ∧ (Below w.heap.size w w' ∧ ∃ ρ', Ending.returned u = .returned (v.den ρ')) := fun σ' v hv ρ' a' w' h' =>
      ⟨h'.defers, _, (resAll_run OK h' hv).1, h'.below, ρ', rfl⟩
    refine calls_of_wp hf hb ?_
    cases o with
    | exit id => cases h2
    | norm =>
      obtain ⟨u, h3, h4⟩ := Option.map_eq_some_iff.1 h2
      simp only [Prod.mk.injEq] at h4
      obtain ⟨rfl, rfl⟩ := h4
      exact evalC_sound OK D hm c _ ρ _ w _ cs1 .norm σ1 h1 hc hrep fun ρ' a' w' h' => fin σ1 u h3 ρ' a' w' h'
    | ret =>
      obtain ⟨u, h3, h4⟩ := Option.map_eq_some_iff.1 h2
      simp only [Prod.mk.injEq] at h4
      obtain ⟨rfl, rfl⟩ := h4
      exact evalC_sound OK D hm c _ ρ _ w _ cs1 .ret σ1 h1 hc hrep fun ρ' a' w' h' => fin σ1 u h3 ρ' a' w' h'

end Go.Proofs.YtmjdmhelmgcanaaDoor

/- An evaluation of straight Go code: what it knows of this program: its types, how its values are compared and built. -/
namespace Go.Proofs.YtmjdmhelmgcanaaDoor
open Go.RowKit

/-- a kind of a thing in memory: coins, amounts by a number, bytes -/
inductive Kd where
  | coins (l : List (Nat × Nat))
  | somes (l : List (Nat × Nat))
  | bytes (l : List Nat)

def Kd.len : Kd → Nat
  | .coins l => l.length
  | .somes l => l.length
  | .bytes l => l.length

def pairCells (p : Nat × Nat) : List Value := .int .u8 p.1 :: limbs p.2 4
def Kd.cells : Kd → List Value
  | .coins l => l.flatMap pairCells
  | .somes l => l.flatMap pairCells
  | .bytes l => l.map fun (b : Nat) => Value.int .u8 (b : Int)
def Kd.okay : Kd → Prop
  | .coins l => ∀ p ∈ l, p.1 < 256 ∧ p.2 < TOP
  | .somes l => ∀ p ∈ l, p.1 < 256 ∧ p.2 < TOP
  | .bytes l => ∀ b ∈ l, b < 256

/-- a slice reads so -/
def Reads (w : World) (v : Value) (n : Nat) (cells : List Value) : Prop :=
  ∃ a c, v = .slice a n c ∧ n ≤ c ∧ c ≤ maxLen ∧ match a with
    | none => n = 0 ∧ c = 0 ∧ cells = []
    | some ad => ad.spot = none ∧ ∀ j u, cells[j]? = some u → w.cell? ⟨ad.block, ad.off + j, none⟩ = some u

def Kd.inv (k : Kd) (v : Value) (w : World) : Prop := Reads w v k.len k.cells ∧ k.okay

theorem Reads.stable {w w' : World} {v : Value} {n : Nat} {cells : List Value} (h : Reads w v n cells) (hb : ∀ b, v.ownBlock = some b → w'.heap[b]? = w.heap[b]?) : Reads w' v n cells := by
  obtain ⟨a, c, rfl, h1, h2, h3⟩ := h
  refine ⟨a, c, rfl, h1, h2, ?_⟩
  cases a with
  | none => exact h3
  | some ad =>
    refine ⟨h3.1, fun j u hu => ?_⟩
    rw [World.cell?_of_block (w := w) (a := ⟨ad.block, ad.off + j, none⟩) (hb ad.block rfl)]
    exact h3.2 j u hu

theorem eq28 (d : Nat) (a0 a1 a2 a3 b0 b1 b2 b3 : Int) (w : World) : (Op.equalIn (d + 2) 24 (.agg #[.int .u64 a0, .int .u64 a1, .int .u64 a2, .int .u64 a3]) (.agg #[.int .u64 b0, .int .u64 b1, .int .u64 b2, .int .u64 b3])).run Tryd.prog w = .ok (decide (a0 = b0 ∧ a1 = b1 ∧ a2 = b2 ∧ a3 = b3)) w := by
  unfold Op.equalIn
  have r : List.range' 0 4 = [0, 1, 2, 3] := rfl
  simp only [go_sem, Std.Legacy.Range.forIn_eq_forIn_range', Std.Legacy.Range.size]
  simp [go_sem, r]
  by_cases h0 : a0 = b0
  · by_cases h1 : a1 = b1
    · by_cases h2 : a2 = b2
      · by_cases h3 : a3 = b3
        · subst h0 h1 h2 h3; simp [go_sem]
        · simp [go_sem, h0, h1, h2, h3]
      · simp [go_sem, h0, h1, h2]
    · simp [go_sem, h0, h1]
  · simp [go_sem, h0]

theorem limbs4 (x : Nat) : limbs x 4 = [.int .u64 (lm x 0), .int .u64 (lm x 1), .int .u64 (lm x 2), .int .u64 (lm x 3)] := by simp [limbs]
theorem den_num (ρ : Env) (x : Nat) : (SV.one [At.big 4 x] : SV Kd).den ρ = V x := by simp [SV.den, denL, limbs4, V, V4]

theorem lm_eq_iff {x y : Nat} (hx : x < TOP) (hy : y < TOP) : ((lm x 0 : Int) = lm y 0 ∧ (lm x 1 : Int) = lm y 1 ∧ (lm x 2 : Int) = lm y 2 ∧ (lm x 3 : Int) = lm y 3) ↔ x = y := by
  constructor
  · rintro ⟨h0, h1, h2, h3⟩
    rw [← mk4_lm hx, ← mk4_lm hy, Int.natCast_inj.1 h0, Int.natCast_inj.1 h1, Int.natCast_inj.1 h2, Int.natCast_inj.1 h3]
  · rintro rfl; exact ⟨rfl, rfl, rfl, rfl⟩

/-- two numbers compared at any depth -/
theorem eqNum (d : Nat) {x y : Nat} (hx : x < TOP) (hy : y < TOP) {b : Bool} (h : x = y ↔ b = true) (w : World) :
    (Op.equalIn (d + 2) 24 (.agg (limbs x 4).toArray) (.agg (limbs y 4).toArray)).run Tryd.prog w = .ok b w := by
  rw [limbs4, limbs4]
  have := eq28 d (lm x 0) (lm x 1) (lm x 2) (lm x 3) (lm y 0) (lm y 1) (lm y 2) (lm y 3) w
  have hb : decide ((lm x 0 : Int) = lm y 0 ∧ (lm x 1 : Int) = lm y 1 ∧ (lm x 2 : Int) = lm y 2 ∧ (lm x 3 : Int) = lm y 3) = b := by
    rw [Bool.eq_iff_iff, decide_eq_true_iff]
    exact (lm_eq_iff hx hy).trans h
  rw [hb] at this
  exact this

def numA : At Kd → Option (Nat × Nat)
  | .big n x => some (n, x)
  | _ => none

/-- what is compared of two values, part by part -/
def eqA : At Kd → At Kd → Option Prop
  | .big 4 x, .big 4 y => some (x = y)
  | .lit k a, .lit k' b => if k = k' then some (a = b) else none
  | .lit k a, .int k' b => if k = k' then some (a = b) else none
  | .int k a, .lit k' b => if k = k' then some (a = b) else none
  | .int k a, .int k' b => if k = k' then some (a = b) else none
  | _, _ => none

def eqTab : TypeId → List (At Kd) → List (At Kd) → Option Prop
  | 24, [.big 4 x], [.big 4 y] => some (x = y)
  | 41, [.big 4 a, .big 4 b], [.big 4 c, .big 4 d] => some (a = c ∧ b = d)
  | 60, [.lit .u8 a, .big 4 b], [.lit .u8 c, .big 4 d] => some (a = c ∧ b = d)
  | 60, [.int .u8 a, .big 4 b], [.lit .u8 c, .big 4 d] => some (a = c ∧ b = d)
  | _, _, _ => none

def sizeTab : TypeId → Option Nat
  | 3 => some 1
  | 4 => some 1
  | 5 => some 1
  | 22 => some 1
  | 24 => some 4
  | 26 => some 1
  | 41 => some 8
  | 60 => some 5
  | 64 => some 1
  | 70 => some 8
  | _ => none
def aggTab : TypeId → Bool
  | 24 => true
  | 41 => true
  | 60 => true
  | 70 => true
  | _ => false
def zeroTab : TypeId → Option (List (At Kd))
  | 3 => some [.lit .i64 0]
  | 24 => some [.big 4 0]
  | 41 => some [.big 4 0, .big 4 0]
  | 60 => some [.lit .u8 0, .big 4 0]
  | 70 => some [.big 8 0]
  | _ => none
def fldTab : TypeId → Nat → Option (Nat × TypeId)
  | 41, 0 => some (0, 24)
  | 41, 1 => some (4, 24)
  | 60, 0 => some (0, 5)
  | 60, 1 => some (1, 24)
  | _, _ => none
def buildTab : TypeId → List (Nat × SV Kd) → Option (List (At Kd))
  | 24, [] => some [.big 4 0]
  | 24, [(0, .one [.lit .u64 n])] => bif decide (0 ≤ n ∧ n < 18446744073709551616) then some [.big 4 n.toNat] else none
  | 41, [] => some [.big 4 0, .big 4 0]
  | 41, [(0, .one [.big 4 a])] => some [.big 4 a, .big 4 0]
  | 41, [(0, .one [.big 4 a]), (1, .one [.big 4 b])] => some [.big 4 a, .big 4 b]
  | 60, [] => some [.lit .u8 0, .big 4 0]
  | 60, [(0, .one [.lit .u8 d]), (1, .one [.big 4 b])] => some [.lit .u8 d, .big 4 b]
  | 70, [] => some [.big 8 0]
  | _, _ => none
def convTab : TypeId → TypeId → IntKind → Option IntKind
  | 64, 22, .u16 => some .u64
  | _, _, _ => none

/-- what a call comes to: each way, when, with what (no names in it) -/
abbrev PCon := List (SV Kd) → Option (List (Prop × SV Kd))
/-- with one thing that the call made, at most -/
abbrev Con := List (SV Kd) → Option (List (Outc Kd))

def findC (f : Nat) : List (Nat × Con) → Con
  | [] => fun _ => none
  | (g, c) :: r => fun args => bif Nat.beq f g then c args else findC f r args

/-- the evaluation's knowledge, with what is known of calls -/
def ctx (tab : List (Nat × Con)) (nt : Nat) : Ctx Kd where
  nt := nt
  size := sizeTab
  agg := aggTab
  boolT := fun t => Nat.beq t 4
  sliceT := fun t => Nat.beq t 22 || Nat.beq t 25 || Nat.beq t 42
  zero := zeroTab
  fld := fldTab
  build := buildTab
  eqT := eqTab
  conv := convTab
  con := fun f args => findC f tab args
  inv := Kd.inv
  len := Kd.len

/-- a contract of a call is true -/
def ConOK (f : Nat) (c : Con) : Prop :=
  ∀ args outs, c args = some outs → ∀ (i : Nat) oc, outs[i]? = some oc → (∀ d, (oc.r d).all (At.inD1 d)) ∧
    (oc.c → ∀ ρ w d nt, (∀ s ∈ args, s.all (ArgOK (ctx [] nt) ρ w)) → (∀ s ∈ args, s.all fun a => ∀ k, a ≠ .obj d k) →
      (callFunc f (args.map (SV.den ρ)).toArray).run Tryd.prog w = .ok (.enter f (args.map (SV.den ρ)).toArray) w ∧
      Calls Tryd.prog f (args.map (SV.den ρ)).toArray w fun e w' => Below w.heap.size w w' ∧ ∃ v, e = .returned ((oc.r d).den { ρ with v := upd ρ.v d v }) ∧ (oc.r d).all (RetOK (ctx [] nt) d w v w'))

def TabOK (tab : List (Nat × Con)) : Prop := ∀ p ∈ tab, ConOK p.1 p.2

theorem findC_ok {tab : List (Nat × Con)} (h : TabOK tab) (f : Nat) : ConOK f (findC f tab) := by
  induction tab with
  | nil => intro args outs h; cases h
  | cons p r ih =>
    obtain ⟨g, c⟩ := p
    intro args outs ho
    simp only [findC] at ho
    cases hb : Nat.beq f g with
    | false => rw [hb] at ho; exact ih (fun q hq => h q (List.mem_cons_of_mem _ hq)) args outs ho
    | true =>
      rw [hb] at ho
      obtain rfl : f = g := Nat.eq_of_beq_eq_true hb
      exact h _ List.mem_cons_self args outs ho

theorem mixed : Tryd.prog.follows .mixedOrders = true := by kernel_rfl

end Go.Proofs.YtmjdmhelmgcanaaDoor
