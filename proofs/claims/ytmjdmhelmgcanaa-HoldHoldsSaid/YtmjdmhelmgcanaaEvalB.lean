/- An evaluation of straight Go code: the state, and how it stands to a frame and a world. -/
import Derived.Test.YtmjdmhelmgcanaaEval
namespace Go.Proofs.Ytmjdmhelmgcanaa
open Go.RowKit
variable {K : Type}

def upd {α : Type} (f : Nat → α) (i : Nat) (x : α) : Nat → α := fun j => bif Nat.beq j i then x else f j
theorem upd_same {α : Type} (f : Nat → α) (i : Nat) (x : α) : upd f i x i = x := by simp [upd]
theorem upd_ne {α : Type} (f : Nat → α) {i j : Nat} (x : α) (h : j ≠ i) : upd f i x j = f j := by
  have h'' : Nat.beq j i = false := by
    cases hb : Nat.beq j i with
    | false => rfl
    | true => exact absurd (Nat.eq_of_beq_eq_true hb) h
  simp only [upd, h'', cond_false]
theorem upd_comm {α : Type} (f : Nat → α) {i j : Nat} (x y : α) (h : i ≠ j) : upd (upd f i x) j y = upd (upd f j y) i x := by
  funext k
  by_cases hi : k = i
  · subst hi; rw [upd_ne _ _ h, upd_same, upd_same]
  · by_cases hj : k = j
    · subst hj; rw [upd_same, upd_ne _ _ hi, upd_same]
    · rw [upd_ne _ _ hj, upd_ne _ _ hi, upd_ne _ _ hi, upd_ne _ _ hj]

structure St (K : Type) where
  slots : Nat → SV K
  heap : Nat → Option (List (At K) × TypeId)
  dom : Nat → Bool

/-- one way in which a call may end: when, and with what -/
structure Outc (K : Type) where
  c : Prop
  r : Nat → SV K

/-- What the evaluation knows of the program. -/
structure Ctx (K : Type) where
  nt : Nat
  size : TypeId → Option Nat
  agg : TypeId → Bool
  boolT : TypeId → Bool
  sliceT : TypeId → Bool
  zero : TypeId → Option (List (At K))
  fld : TypeId → Nat → Option (Nat × TypeId)
  build : TypeId → List (Nat × SV K) → Option (List (At K))
  eqT : TypeId → List (At K) → List (At K) → Option Prop
  conv : TypeId → TypeId → IntKind → Option IntKind
  con : FuncId → List (SV K) → Option (List (Outc K))
  inv : K → Value → World → Prop
  len : K → Nat

def pw (n : Nat) : Nat := 18446744073709551616 ^ n
theorem pw4 : pw 4 = TOP := by decide

/-- what is known of a part -/
def AtOK (C : Ctx K) (σ : St K) (ρ : Env) (w : World) : At K → Prop
  | .big n x => x < pw n
  | .ptr id _ => σ.dom id = true ∧ (σ.heap id).isSome = true
  | .obj id k => σ.dom id = true ∧ C.inv k (ρ.v id) w ∧ ∀ b, (ρ.v id).ownBlock = some b → b < w.heap.size ∧ ∀ i, (σ.heap i).isSome = true → ρ.b i ≠ b
  | _ => True

structure Rep (C : Ctx K) (w0 : World) (ρ : Env) (σ : St K) (a : Act) (w : World) : Prop where
  size : a.tmps.size = C.nt
  defers : a.defers = []
  slots : ∀ i, i < C.nt → a.eval (.tmp i) = (σ.slots i).den ρ
  below : Below w0.heap.size w0 w
  cells : ∀ id l t, σ.heap id = some (l, t) → w0.heap.size ≤ ρ.b id ∧ w.heap[ρ.b id]? = some (.cells (cellsL ρ l).toArray t (0, 0))
  inj : ∀ i j, (σ.heap i).isSome = true → (σ.heap j).isSome = true → ρ.b i = ρ.b j → i = j
  okS : ∀ i, (σ.slots i).all (AtOK C σ ρ w)
  okH : ∀ id l t, σ.heap id = some (l, t) → ∀ a ∈ l, AtOK C σ ρ w a
  hdom : ∀ id, (σ.heap id).isSome = true → σ.dom id = true

/-- what must be true of the evaluation's knowledge -/
structure CtxInv (C : Ctx K) : Prop where
  stable : ∀ k v w w', C.inv k v w → (∀ b, v.ownBlock = some b → w'.heap[b]? = w.heap[b]?) → C.inv k v w'
  cell : ∀ k v w, C.inv k v w → ∃ a n c, v = .slice a n c

variable {C : Ctx K} {σ σ' : St K} {ρ ρ' : Env} {w0 w w' : World} {a : Act}

theorem AtOK.inD {x : At K} (h : AtOK C σ ρ w x) : x.inD σ.dom := by
  cases x <;> simp_all [AtOK, At.inD]

/-- what is known stays known -/
theorem AtOK.mono (I : CtxInv C) {x : At K} (h : AtOK C σ ρ w x) (hd : ∀ i, σ.dom i = true → σ'.dom i = true) (hh : ∀ i, (σ.heap i).isSome = true → (σ'.heap i).isSome = true)
    (hv : ∀ i, σ.dom i = true → ρ'.v i = ρ.v i) (hsz : w.heap.size ≤ w'.heap.size)
    (hw : ∀ b, b < w.heap.size → (∀ i, (σ.heap i).isSome = true → ρ.b i ≠ b) → w'.heap[b]? = w.heap[b]?)
    (hb : ∀ i, (σ'.heap i).isSome = true → ((σ.heap i).isSome = true ∧ ρ'.b i = ρ.b i) ∨ w.heap.size ≤ ρ'.b i) : AtOK C σ' ρ' w' x := by
  cases x with
  | big n x => exact h
  | ptr id off => exact ⟨hd _ h.1, hh _ h.2⟩
  | obj id k =>
    obtain ⟨h1, h2, h3⟩ := h
    refine ⟨hd _ h1, ?_, ?_⟩
    · rw [hv _ h1]
      exact I.stable _ _ _ _ h2 fun b hb => hw b (h3 b hb).1 (h3 b hb).2
    · intro b hbb
      rw [hv _ h1] at hbb
      obtain ⟨h4, h5⟩ := h3 b hbb
      refine ⟨Nat.lt_of_lt_of_le h4 hsz, fun i hi => ?_⟩
      rcases hb i hi with ⟨h6, h7⟩ | h6
      · rw [h7]; exact h5 i h6
      · omega
  | lit k n => trivial
  | int k n => trivial
  | bool b => trivial
  | fn f => trivial
  | str s => trivial

theorem AtOK.oneCell (I : CtxInv C) {x : At K} (h : AtOK C σ ρ w x) : ∀ u ∈ x.cells ρ, u.oneCell' = true := by
  cases x with
  | big n x =>
    simp only [At.cells]
    clear h
    induction n with
    | zero => simp [limbs]
    | succ n ih =>
      intro u hu
      simp only [limbs, List.mem_append, List.mem_singleton] at hu
      rcases hu with hu | rfl
      · exact ih u hu
      · rfl
  | obj id k =>
    obtain ⟨a, n, c, hc⟩ := I.cell _ _ _ h.2.1
    intro u hu
    simp only [At.cells, At.val, List.mem_singleton] at hu
    subst hu
    rw [hc]; rfl
  | _ => intro u hu; simp only [At.cells, At.val, List.mem_singleton] at hu; subst hu; rfl

theorem cellsL_oneCell (I : CtxInv C) {l : List (At K)} (h : ∀ a ∈ l, AtOK C σ ρ w a) : ∀ u ∈ cellsL ρ l, u.oneCell' = true := by
  intro u hu
  simp only [cellsL, List.mem_flatMap] at hu
  obtain ⟨a, ha, hu⟩ := hu
  exact (h a ha).oneCell I u hu

/-- a slot is written -/
def putS (d : Option Nat) (v : SV K) (σ : St K) : St K :=
  match d with
  | some d => { σ with slots := upd σ.slots d v }
  | none => σ

theorem putS_heap (d : Option Nat) (v : SV K) (σ : St K) : (putS d v σ).heap = σ.heap := by cases d <;> rfl
theorem putS_dom (d : Option Nat) (v : SV K) (σ : St K) : (putS d v σ).dom = σ.dom := by cases d <;> rfl

def dstIn (nt : Nat) : Option Nat → Prop
  | some d => d < nt
  | none => True

theorem eval_put_same {a : Act} {d : Nat} (v : Value) (h : d < a.tmps.size) : (a.put (some d) v).eval (.tmp d) = v := by
  simp [Act.eval, Act.put, h]
theorem eval_put_ne {a : Act} {d i : Nat} (v : Value) (h : i ≠ d) : (a.put (some d) v).eval (.tmp i) = a.eval (.tmp i) := by
  have h' : d ≠ i := fun e => h e.symm
  simp [Act.eval, Act.put, Array.getElem?_setIfInBounds_ne h']

theorem AtOK.slotFree {x : At K} {d : Option Nat} {v : SV K} : AtOK C (putS d v σ) ρ w x ↔ AtOK C σ ρ w x := by
  cases x <;> simp [AtOK, putS_heap, putS_dom]

/-- a slot is written, no more -/
theorem Rep.put (h : Rep C w0 ρ σ a w) {d : Option Nat} (hd : dstIn C.nt d) {v : SV K} (hv : v.all (AtOK C σ ρ w)) : Rep C w0 ρ (putS d v σ) (a.put d (v.den ρ)) w := by
  cases d with
  | none => exact h
  | some d =>
    have hd' : d < a.tmps.size := by rw [h.size]; exact hd
    refine ⟨by simp [Act.put, h.size], h.defers, ?_, h.below, h.cells, h.inj, ?_, ?_, h.hdom⟩
    · intro i hi
      by_cases hid : i = d
      · subst hid; rw [eval_put_same _ hd']; simp [putS, upd_same]
      · rw [eval_put_ne _ hid]; simp only [putS]; rw [upd_ne _ _ hid]; exact h.slots i hi
    · intro i
      refine SV.all_mono (p := AtOK C σ ρ w) (fun a ha => AtOK.slotFree.2 ha) ?_
      by_cases hid : i = d
      · subst hid; simp only [putS, upd_same]; exact hv
      · simp only [putS, upd_ne _ _ hid]; exact h.okS i
    · intro id l t hl a ha
      exact AtOK.slotFree.2 (h.okH id l t hl a ha)

theorem heap_push_old (w : World) (o : Obj) {b : Nat} (h : b < w.heap.size) : (w.alloc o).heap[b]? = w.heap[b]? := Below.heap_alloc w o b h

/-- a variable comes, or none -/
def newH (hp : Option (List (At K) × TypeId)) (d : Nat) (h : Nat → Option (List (At K) × TypeId)) : Nat → Option (List (At K) × TypeId) :=
  match hp with
  | some x => upd h d (some x)
  | none => h

/-- what is known of a state stays known when the world goes on and names come -/
theorem Rep.goes (I : CtxInv C) (h : Rep C w0 ρ σ a w) {d : Nat} (hfree : σ.dom d = false) {ρ' : Env} {w' : World}
    (hb : ∀ i, i ≠ d → ρ'.b i = ρ.b i) (hv : ∀ i, i ≠ d → ρ'.v i = ρ.v i)
    (hold : ∀ b, b < w.heap.size → w'.heap[b]? = w.heap[b]?) (hsz : w.heap.size ≤ w'.heap.size) (hos : w'.os = w.os) (htape : w'.tape = w.tape) (hout : w'.output = w.output)
    (hp : Option (List (At K) × TypeId))
    (hnew : ∀ l t, hp = some (l, t) → w.heap.size ≤ ρ'.b d ∧ w'.heap[ρ'.b d]? = some (.cells (cellsL ρ l).toArray t (0, 0)) ∧ ∀ a ∈ l, AtOK C σ ρ w a) :
    Rep C w0 ρ' { σ with heap := newH hp d σ.heap, dom := upd σ.dom d true } a w' ∧
    ∀ x, AtOK C σ ρ w x → AtOK C { σ with heap := newH hp d σ.heap, dom := upd σ.dom d true } ρ' w' x := by
  have hhd : σ.heap d = none := by
    cases hx : σ.heap d with
    | none => rfl
    | some y => have := h.hdom d (by rw [hx]; rfl); rw [hfree] at this; cases this
  have hne : ∀ i, σ.dom i = true → i ≠ d := fun i hi e => by subst e; rw [hfree] at hi; cases hi
  have hb' : ∀ i, σ.dom i = true → ρ'.b i = ρ.b i := fun i hi => hb i (hne i hi)
  have hv' : ∀ i, σ.dom i = true → ρ'.v i = ρ.v i := fun i hi => hv i (hne i hi)
  have hlt : ∀ id l t, σ.heap id = some (l, t) → ρ.b id < w.heap.size := fun id l t hl => (Array.getElem?_eq_some_iff.1 (h.cells id l t hl).2).1
  -- the new heap
  have hheap : ∀ i, i ≠ d → newH hp d σ.heap i = σ.heap i := by
    intro i hi
    cases hp with
    | none => rfl
    | some x => exact upd_ne _ _ hi
  have hmono : ∀ x, AtOK C σ ρ w x → AtOK C { σ with heap := newH hp d σ.heap, dom := upd σ.dom d true } ρ' w' x := by
    intro x hx
    refine hx.mono I ?_ ?_ hv' hsz (fun b hb _ => hold b hb) ?_
    · intro i hi
      show upd σ.dom d true i = true
      by_cases hid : i = d
      · subst hid; exact upd_same _ _ _
      · rw [upd_ne _ _ hid]; exact hi
    · intro i hi
      have hid : i ≠ d := fun e => by subst e; rw [hhd] at hi; cases hi
      show (newH hp d σ.heap i).isSome = true
      rw [hheap i hid]; exact hi
    · intro i hi
      by_cases hid : i = d
      · subst hid
        cases hp with
        | none => simp only [newH, hhd] at hi; cases hi
        | some x => exact .inr (hnew x.1 x.2 rfl).1
      · have hi' : (σ.heap i).isSome = true := by
          have := hi
          simp only [] at this
          rw [hheap i hid] at this
          exact this
        exact .inl ⟨hi', hb i hid⟩
  refine ⟨⟨h.size, h.defers, ?_, ?_, ?_, ?_, ?_, ?_, ?_⟩, hmono⟩
  · intro i hi
    rw [h.slots i hi]
    exact (SV.den_congr hb' hv' (SV.all_mono (fun _ => AtOK.inD) (h.okS i))).symm
  · exact h.below.trans ⟨hos, htape, hout, hsz, fun k hk => hold k (Nat.lt_of_lt_of_le hk h.below.size)⟩
  · intro id l t hl
    by_cases hid : id = d
    · subst hid
      cases hp with
      | none => simp only [newH, hhd] at hl; cases hl
      | some x =>
        simp only [newH, upd_same, Option.some.injEq] at hl
        subst hl
        obtain ⟨h1, h2, h3⟩ := hnew l t rfl
        refine ⟨Nat.le_trans h.below.size h1, ?_⟩
        rw [cellsL_congr hb' hv' fun a ha => (h3 a ha).inD]
        exact h2
    · simp only [] at hl
      rw [hheap id hid] at hl
      obtain ⟨h1, h2⟩ := h.cells id l t hl
      rw [hb id hid, cellsL_congr hb' hv' fun a ha => (h.okH id l t hl a ha).inD, hold _ (hlt id l t hl)]
      exact ⟨h1, h2⟩
  · intro i j hi hj hij
    simp only [] at hi hj
    have old : ∀ i, i ≠ d → (newH hp d σ.heap i).isSome = true → (σ.heap i).isSome = true ∧ ρ'.b i < w.heap.size := by
      intro i hid hi
      rw [hheap i hid] at hi
      refine ⟨hi, ?_⟩
      obtain ⟨⟨l, t⟩, hl⟩ := Option.isSome_iff_exists.1 hi
      rw [hb i hid]
      exact hlt i l t hl
    have new : (newH hp d σ.heap d).isSome = true → w.heap.size ≤ ρ'.b d := by
      intro hi
      cases hp with
      | none => simp only [newH, hhd] at hi; cases hi
      | some x => exact (hnew x.1 x.2 rfl).1
    by_cases hid : i = d
    · by_cases hjd : j = d
      · rw [hid, hjd]
      · subst hid
        have h1 := new hi
        have h2 := (old j hjd hj).2
        omega
    · by_cases hjd : j = d
      · subst hjd
        have h1 := new hj
        have h2 := (old i hid hi).2
        omega
      · rw [hb i hid, hb j hjd] at hij
        exact h.inj i j (old i hid hi).1 (old j hjd hj).1 hij
  · intro i
    exact SV.all_mono hmono (h.okS i)
  · intro id l t hl x hx
    by_cases hid : id = d
    · subst hid
      cases hp with
      | none => simp only [newH, hhd] at hl; cases hl
      | some y =>
        simp only [newH, upd_same, Option.some.injEq] at hl
        subst hl
        exact hmono x ((hnew l t rfl).2.2 x hx)
    · simp only [] at hl
      rw [hheap id hid] at hl
      exact hmono x (h.okH id l t hl x hx)
  · intro id hi
    show upd σ.dom d true id = true
    by_cases hid : id = d
    · subst hid; exact upd_same _ _ _
    · rw [upd_ne _ _ hid]
      simp only [] at hi
      rw [hheap id hid] at hi
      exact h.hdom id hi

end Go.Proofs.Ytmjdmhelmgcanaa
