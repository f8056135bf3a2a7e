/- An evaluation of straight Go code: operations that don't hang on one another may change places. -/
import Derived.Test.YtmjdmhelmgcanaaEvalE
namespace Go.Proofs.Ytmjdmhelmgcanaa
open Go.RowKit
variable {K : Type} {P : Program} {C : Ctx K} {σ σ' : St K}

/-- 2: it writes own memory; 1: it reads it; 0: neither -/
def memClass (o : Oper) : Nat :=
  match o.op with
  | .store _ _ _ => 2
  | .load _ _ => 1
  | _ => 0
def memOK (x y : Oper) : Bool :=
  match memClass x, memClass y with
  | 2, 2 | 2, 1 | 1, 2 => false
  | _, _ => true

theorem valsOf_frame {nt : Nat} {s s' : Nat → SV K} {x : Operand} (h : ∀ t, x = .tmp t → s' t = s t) : valsOf nt s' x = valsOf nt s x := by
  unfold valsOf
  split
  · rename_i t; rw [h t rfl]
  all_goals rfl

theorem allVals_frame {nt : Nat} {s s' : Nat → SV K} : ∀ (xs : List Operand), (∀ x ∈ xs, ∀ t, x = .tmp t → s' t = s t) → allVals nt s' xs = allVals nt s xs
  | [], _ => rfl
  | x :: r, h => by
    simp only [allVals]
    rw [valsOf_frame (h x List.mem_cons_self), allVals_frame r fun y hy => h y (List.mem_cons_of_mem _ hy)]

theorem allParts_frame {nt : Nat} {s s' : Nat → SV K} : ∀ (xs : List (Nat × Operand)), (∀ x ∈ xs, ∀ t, x.2 = .tmp t → s' t = s t) → allParts nt s' xs = allParts nt s xs
  | [], _ => rfl
  | (i, x) :: r, h => by
    simp only [allParts]
    rw [valsOf_frame (h (i, x) List.mem_cons_self), allParts_frame r fun y hy => h y (List.mem_cons_of_mem _ hy)]

/-- An operation's result hangs on its operands' slots, on the variables that it reads, and on whether its own name is new. -/
theorem res_frame {orc : Nat → Nat} {o : Oper} {s s' : Nat → SV K} {hp hp' : Nat → Option (List (At K) × TypeId)} {dm dm' : Nat → Bool}
    (hs : ∀ x ∈ o.op.operands.toList, ∀ t, x = .tmp t → s' t = s t) (hd : ∀ d, o.dst = some d → dm' d = dm d)
    (hh : memClass o ≠ 0 → ∀ x ∈ o.op.operands.toList, ∀ v id off, valsOf C.nt s x = some v → ptrS v = some (id, off) → hp' id = hp id) :
    res C orc o s' hp' dm' = res C orc o s hp dm := by
  obtain ⟨dst, op, type, pos, after, guard⟩ := o
  cases op
  case move x => simp only [res]; rw [valsOf_frame (hs x (by simp [Op.operands]))]
  case assign x => simp only [res]; rw [valsOf_frame (hs x (by simp [Op.operands]))]
  case pick x y z =>
    simp only [res]
    rw [valsOf_frame (hs x (by simp [Op.operands]))]
    have hy := valsOf_frame (nt := C.nt) (hs y (by simp [Op.operands]))
    have hz := valsOf_frame (nt := C.nt) (hs z (by simp [Op.operands]))
    congr 1
    funext v
    congr 1
    funext b
    cases b <;> simp only [cond_true, cond_false, hy, hz]
  case extract x i => simp only [res]; rw [valsOf_frame (hs x (by simp [Op.operands]))]
  case binOp bop t x y ty =>
    simp only [res]; rw [valsOf_frame (hs x (by simp [Op.operands])), valsOf_frame (hs y (by simp [Op.operands]))]
  case unOp u t x => cases u <;> simp only [res] <;> rw [valsOf_frame (hs x (by simp [Op.operands]))]
  case load t x =>
    simp only [res]
    rw [valsOf_frame (hs x (by simp [Op.operands]))]
    cases hv : valsOf C.nt s x with
    | none => rfl
    | some v =>
      simp only [Option.bind_some]
      cases hp1 : ptrS v with
      | none => rfl
      | some q =>
        simp only [Option.bind_some]
        rw [hh (by simp [memClass]) x (by simp [Op.operands]) v q.1 q.2 hv hp1]
  case store t x y =>
    simp only [res]
    rw [valsOf_frame (hs x (by simp [Op.operands])), valsOf_frame (hs y (by simp [Op.operands]))]
    cases hv : valsOf C.nt s x with
    | none => rfl
    | some v =>
      simp only [Option.bind_some]
      cases hp1 : ptrS v with
      | none => rfl
      | some q =>
        simp only [Option.bind_some]
        rw [hh (by simp [memClass]) x (by simp [Op.operands]) v q.1 q.2 hv hp1]
  case alloc t =>
    simp only [res]
    cases dst with
    | none => rfl
    | some d => simp only [Option.bind_some]; rw [hd d rfl]
  case box t x =>
    simp only [res]
    rw [valsOf_frame (hs x (by simp [Op.operands]))]
    cases dst with
    | none => rfl
    | some d => simp only [Option.bind_some]; rw [hd d rfl]
  case fieldAddr t x f => simp only [res]; rw [valsOf_frame (hs x (by simp [Op.operands]))]
  case field t x f => simp only [res]; rw [valsOf_frame (hs x (by simp [Op.operands]))]
  case build t parts =>
    simp only [res]
    rw [allParts_frame _ fun p hp t e => hs p.2 (by simp only [Op.operands, List.mem_map]; exact ⟨p, hp, rfl⟩) t e]
  case convert a b x => simp only [res]; rw [valsOf_frame (hs x (by simp [Op.operands]))]
  case call cl =>
    obtain ⟨callee, args, ats⟩ := cl
    cases callee with
    | value f =>
      simp only [res]
      rw [valsOf_frame (hs f (by simp [Op.operands, Call.operands])), allVals_frame _ fun p hp t e => hs p (by simp only [Op.operands, Call.operands, Array.toList_append, List.mem_append]; exact .inr hp) t e]
      cases dst with
      | none => rfl
      | some d => simp only [Option.bind_some]; rw [hd d rfl]
    | builtin b =>
      cases b
      case len =>
        simp only [res]
        rw [allVals_frame _ fun p hp t e => hs p (by simp only [Op.operands, Call.operands, Array.toList_append, List.mem_append]; exact .inr hp) t e]
      all_goals rfl
    | invoke r m => rfl
  all_goals rfl

theorem wantS_frame {nt : Nat} {ops : Array Oper} {s s' : Nat → SV K} {o : Oper} (h : ∀ d, d ∈ o.looksAt ops → s' d = s d) : wantS nt ops s' o = wantS nt ops s o := by
  unfold wantS
  split
  · rfl
  · rename_i j want hg
    split
    · rename_i t ht
      rw [h t (by simp [Oper.looksAt, hg, ht])]
    · rfl

def Eff.isPut : Eff K → Bool
  | .put _ _ _ => true
  | _ => false

def noPut (x : Option (Prop × SV K × Eff K)) : Prop := ∀ r, x = some r → r.2.2.isPut = false
theorem noPut_none : noPut (none : Option (Prop × SV K × Eff K)) := fun _ h => by cases h
theorem noPut_some {c : Prop} {v : SV K} {e : Eff K} (h : e.isPut = false) : noPut (some (c, v, e)) := fun r hr => by cases hr; exact h
theorem noPut_bind {α : Type} {x : Option α} {f : α → Option (Prop × SV K × Eff K)} (h : ∀ a, noPut (f a)) : noPut (x.bind f) := by
  cases x with
  | none => exact noPut_none
  | some a => exact h a
theorem noPut_map {α : Type} {x : Option α} {f : α → Prop × SV K × Eff K} (h : ∀ a, (f a).2.2.isPut = false) : noPut (x.map f) := by
  cases x with
  | none => exact noPut_none
  | some a => intro r hr; cases hr; exact h a
theorem noPut_cond {b : Bool} {x y : Option (Prop × SV K × Eff K)} (hx : noPut x) (hy : noPut y) : noPut (bif b then x else y) := by
  cases b
  · exact hy
  · exact hx

/-- only a store writes a variable -/
theorem eff_class {orc : Nat → Nat} {o : Oper} {s : Nat → SV K} {hp : Nat → Option (List (At K) × TypeId)} {dm : Nat → Bool} (h : memClass o ≠ 2) : noPut (res C orc o s hp dm) := by
  obtain ⟨dst, op, type, pos, after, guard⟩ := o
  cases op
  case store t x y => exact absurd rfl h
  case unOp u t x => cases u <;> simp only [res] <;> repeat (first | exact noPut_none | exact noPut_some rfl | exact noPut_map (fun _ => rfl) | refine noPut_cond ?_ ?_ | refine noPut_bind (fun _ => ?_))
  case call cl =>
    obtain ⟨callee, args, ats⟩ := cl
    cases callee with
    | value f => simp only [res]; repeat (first | exact noPut_none | exact noPut_some rfl | exact noPut_map (fun _ => rfl) | refine noPut_cond ?_ ?_ | refine noPut_bind (fun _ => ?_) | split)
    | builtin b => cases b <;> simp only [res] <;> repeat (first | exact noPut_none | exact noPut_some rfl | exact noPut_map (fun _ => rfl) | refine noPut_cond ?_ ?_ | refine noPut_bind (fun _ => ?_) | split)
    | invoke r m => exact noPut_none
  all_goals simp only [res]
  all_goals repeat (first | exact noPut_none | exact noPut_some rfl | exact noPut_map (fun _ => rfl) | refine noPut_cond ?_ ?_ | refine noPut_bind (fun _ => ?_) | split)

/-- may these two change places? -/
def indepB (ops : Array Oper) (x y : Oper) : Bool := x.apart ops y && memOK x y

theorem apart_symm {ops : Array Oper} {x y : Oper} (h : x.apart ops y = true) : y.apart ops x = true := by
  obtain ⟨h1, h2, h3⟩ := Oper.apart_spec h
  unfold Oper.apart
  have a1 : (match y.dst with | some d => !(x.looksAt ops).contains d && x.dst != some d | none => true) = true := by
    cases hy : y.dst with
    | none => rfl
    | some d =>
      have n1 := h3 d hy
      have n2 : x.dst ≠ some d := fun e => h2 d e hy
      simp [n1, n2]
  have a2 : (match x.dst with | some d => !(y.looksAt ops).contains d | none => true) = true := by
    cases hx : x.dst with
    | none => rfl
    | some d => simp [h1 d hx]
  exact Bool.and_eq_true_iff.2 ⟨a1, a2⟩

theorem memOK_symm {x y : Oper} (h : memOK x y = true) : memOK y x = true := by
  unfold memOK at *
  split at h <;> simp_all
  split <;> simp_all

theorem indep_symm {ops : Array Oper} {x y : Oper} (h : indepB ops x y = true) : indepB ops y x = true := by
  unfold indepB at *
  rw [Bool.and_eq_true] at *
  exact ⟨apart_symm h.1, memOK_symm h.2⟩

/-- what an operation comes to is the same behind another one that it doesn't hang on -/
theorem raw_frame (D : CtxD C) (h : Wf σ) {orc : Nat → Nat} {ops : Array Oper} {x y : Oper} (hi : indepB ops x y = true) {r : Prop × SV K × Eff K} (hx : raw C orc ops x σ = some r) :
    raw C orc ops y (app x r σ) = raw C orc ops y σ := by
  obtain ⟨c, v, e⟩ := r
  unfold indepB at hi
  rw [Bool.and_eq_true] at hi
  obtain ⟨h1, h2, h3⟩ := Oper.apart_spec hi.1
  obtain ⟨he, hv⟩ := raw_in D h hx
  have hslots : (e.app σ).slots = σ.slots := by cases e <;> rfl
  have hs : ∀ t, (∀ d, x.dst = some d → t ≠ d) → (app x (c, v, e) σ).slots t = σ.slots t := by
    intro t ht
    show (putS x.dst v (e.app σ)).slots t = _
    cases hd : x.dst with
    | none => simp only [putS, hslots]
    | some d => simp only [putS]; rw [upd_ne _ _ (ht d hd), hslots]
  have hdom : ∀ d, y.dst = some d → (app x (c, v, e) σ).dom d = σ.dom d := by
    intro d hd
    show (putS x.dst v (e.app σ)).dom d = _
    rw [putS_dom]
    cases e with
    | none => rfl
    | put id l t => rfl
    | new id l t =>
      have : d ≠ id := fun e => by subst e; exact h2 d he.1 hd
      exact upd_ne _ _ this
    | own id =>
      have : d ≠ id := fun e => by subst e; exact h2 d he.1 hd
      exact upd_ne _ _ this
  have hheap : memClass y ≠ 0 → ∀ id, σ.dom id = true → (app x (c, v, e) σ).heap id = σ.heap id := by
    intro hy id hid
    show (putS x.dst v (e.app σ)).heap id = _
    rw [putS_heap]
    cases e with
    | none => rfl
    | own d => rfl
    | new d l t =>
      have : id ≠ d := fun e => by subst e; rw [he.2.1] at hid; cases hid
      exact upd_ne _ _ this
    | put d l t =>
      exfalso
      have hx2 : memClass x = 2 := by
        by_cases hc : memClass x = 2
        · exact hc
        · exfalso
          unfold raw at hx
          cases hd : dstB C.nt x.dst with
          | false => rw [hd] at hx; cases hx
          | true =>
            rw [hd] at hx
            simp only [cond_true] at hx
            split at hx
            · have := eff_class hc _ hx
              cases this
            · cases hx
            · cases hx
      have hm := hi.2
      have hy12 : memClass y = 1 ∨ memClass y = 2 := by
        unfold memClass at hy ⊢
        split <;> simp_all
      unfold memOK at hm
      rcases hy12 with e | e <;> rw [hx2, e] at hm <;> cases hm
  unfold raw
  cases hd : dstB C.nt y.dst with
  | false => rfl
  | true =>
    simp only [cond_true]
    have hw : wantS C.nt ops (app x (c, v, e) σ).slots y = wantS C.nt ops σ.slots y := wantS_frame fun d hdl => hs d fun d' hd' e => by subst e; exact h1 _ hd' hdl
    rw [hw]
    have hres : res C orc y (app x (c, v, e) σ).slots (app x (c, v, e) σ).heap (app x (c, v, e) σ).dom = res C orc y σ.slots σ.heap σ.dom := by
      refine res_frame ?_ hdom ?_
      · intro z hz t ht
        subst ht
        exact hs t fun d' hd' e => by
          subst e
          exact h1 _ hd' (List.mem_append_left _ (List.mem_filterMap.2 ⟨.tmp t, by simpa using hz, rfl⟩))
      · intro hy z hz u id off hu hp
        have hin := valsOf_inD h hu
        rw [ptrS_spec hp] at hin
        exact hheap hy id (hin (.ptr id off) (by simp))
    rw [hres]

theorem app_comm (D : CtxD C) (h : Wf σ) {orc : Nat → Nat} {ops : Array Oper} {x y : Oper} (hi : indepB ops x y = true) {r q : Prop × SV K × Eff K} (hx : raw C orc ops x σ = some r) (hy : raw C orc ops y σ = some q) :
    app y q (app x r σ) = app x r (app y q σ) := by
  obtain ⟨c, v, e⟩ := r
  obtain ⟨c', v', e'⟩ := q
  unfold indepB at hi
  rw [Bool.and_eq_true] at hi
  obtain ⟨h1, h2, h3⟩ := Oper.apart_spec hi.1
  obtain ⟨he, _⟩ := raw_in D h hx
  obtain ⟨he', _⟩ := raw_in D h hy
  have hnp : e.isPut = true → e'.isPut = true → False := by
    intro p1 p2
    have cls : ∀ z r, raw C orc ops z σ = some r → r.2.2.isPut = true → memClass z = 2 := by
      intro z r hz hp
      by_cases hc : memClass z = 2
      · exact hc
      · exfalso
        unfold raw at hz
        cases hd : dstB C.nt z.dst with
        | false => rw [hd] at hz; cases hz
        | true =>
          rw [hd] at hz
          simp only [cond_true] at hz
          split at hz
          · have := eff_class hc _ hz
            rw [this] at hp; cases hp
          · simp only [Option.some.injEq] at hz
            subst hz
            cases hp
          · cases hz
    have hm := hi.2
    unfold memOK at hm
    rw [cls x _ hx p1, cls y _ hy p2] at hm
    cases hm
  have ext : ∀ s t : St K, s.slots = t.slots → s.heap = t.heap → s.dom = t.dom → s = t := by
    intro s t a b c; cases s; cases t; simp_all
  have sl : ∀ (e : Eff K) (s : St K), (e.app s).slots = s.slots := by intro e s; cases e <;> rfl
  refine ext _ _ ?_ ?_ ?_
  · show (putS y.dst v' (e'.app (putS x.dst v (e.app σ)))).slots = (putS x.dst v (e.app (putS y.dst v' (e'.app σ)))).slots
    cases hxd : x.dst with
    | none =>
      cases hyd : y.dst with
      | none => simp only [putS, sl]
      | some d => simp only [putS, sl]
    | some dx =>
      cases hyd : y.dst with
      | none => simp only [putS, sl]
      | some dy =>
        simp only [putS, sl]
        exact upd_comm _ _ _ fun e => by subst e; exact h2 _ hxd hyd
  · show (putS y.dst v' (e'.app (putS x.dst v (e.app σ)))).heap = (putS x.dst v (e.app (putS y.dst v' (e'.app σ)))).heap
    rw [putS_heap, putS_heap]
    have hp : ∀ (d : Option Nat) (v : SV K) (e : Eff K) (s : St K), (e.app (putS d v s)).heap = (e.app s).heap := by
      intro d v e s
      cases e <;> simp only [Eff.app, putS_heap]
    rw [hp, hp]
    cases e with
    | none => rfl
    | own i => cases e' <;> rfl
    | new i l t =>
      cases e' with
      | none => rfl
      | own j => rfl
      | new j l' t' => exact upd_comm _ _ _ fun e => by subst e; exact h2 _ he.1 he'.1
      | put j l' t' =>
        refine upd_comm _ _ _ fun e => ?_
        subst e
        obtain ⟨⟨l0, h0⟩, _⟩ := he'
        have := h.hdom i (by rw [h0]; rfl)
        rw [he.2.1] at this; cases this
    | put i l t =>
      cases e' with
      | none => rfl
      | own j => rfl
      | new j l' t' =>
        refine upd_comm _ _ _ fun e => ?_
        subst e
        obtain ⟨⟨l0, h0⟩, _⟩ := he
        have := h.hdom i (by rw [h0]; rfl)
        rw [he'.2.1] at this; cases this
      | put j l' t' => exact (hnp rfl rfl).elim
  · show (putS y.dst v' (e'.app (putS x.dst v (e.app σ)))).dom = (putS x.dst v (e.app (putS y.dst v' (e'.app σ)))).dom
    rw [putS_dom, putS_dom]
    have hp : ∀ (d : Option Nat) (v : SV K) (e : Eff K) (s : St K), (e.app (putS d v s)).dom = (e.app s).dom := by
      intro d v e s
      cases e <;> simp only [Eff.app, putS_dom]
    rw [hp, hp]
    have two : ∀ i j : Nat, x.dst = some i → y.dst = some j → upd (upd σ.dom i true) j true = upd (upd σ.dom j true) i true := fun i j hi hj =>
      upd_comm _ _ _ fun e => by subst e; exact h2 _ hi hj
    cases e with
    | none => rfl
    | put i l t => cases e' <;> rfl
    | own i =>
      cases e' with
      | none => rfl
      | put j l' t' => rfl
      | own j => exact two i j he.1 he'.1
      | new j l' t' => exact two i j he.1 he'.1
    | new i l t =>
      cases e' with
      | none => rfl
      | put j l' t' => rfl
      | own j => exact two i j he.1 he'.1
      | new j l' t' => exact two i j he.1 he'.1

end Go.Proofs.Ytmjdmhelmgcanaa
