/- An evaluation of straight Go code: in whatever order the operations of a statement come, they come to the same. -/
import Derived.Test.YtmjdmhelmgcanaaEvalD
namespace Go.Proofs.Ytmjdmhelmgcanaa
open Go.RowKit
variable {K : Type} {P : Program} {C : Ctx K} {σ σ' : St K}

def wantS (nt : Nat) (ops : Array Oper) (slots : Nat → SV K) (o : Oper) : Option Bool :=
  match o.guard with
  | none => some true
  | some (j, want) => match (ops[j]?).bind (·.dst) with
    | some t => bif Nat.blt t nt then (match slots t with
        | .one [.bool b] => some (b == want)
        | .tup [] => some false
        | _ => none) else none
    | none => some false

def dstB (nt : Nat) : Option Nat → Bool
  | some d => Nat.blt d nt
  | none => true

/-- what an operation comes to, its guard looked at -/
def raw (C : Ctx K) (orc : Nat → Nat) (ops : Array Oper) (o : Oper) (σ : St K) : Option (Prop × SV K × Eff K) :=
  bif dstB C.nt o.dst then (match wantS C.nt ops σ.slots o with
    | some true => res C orc o σ.slots σ.heap σ.dom
    | some false => some (True, .tup [], .none)
    | none => none) else none

def app (o : Oper) (r : Prop × SV K × Eff K) (σ : St K) : St K := putS o.dst r.2.1 (r.2.2.app σ)

def step (C : Ctx K) (orc : Nat → Nat) (ops : Array Oper) (o : Oper) (σ : St K) : Option (Prop × St K) :=
  (raw C orc ops o σ).map fun r => (r.1, app o r σ)

/-- all names are known ones -/
structure Wf (σ : St K) : Prop where
  slots : ∀ i, (σ.slots i).all (At.inD σ.dom)
  heap : ∀ id l t, σ.heap id = some (l, t) → ∀ a ∈ l, a.inD σ.dom
  hdom : ∀ id, (σ.heap id).isSome = true → σ.dom id = true

def At.inD1 (d : Nat) : At K → Prop
  | .ptr _ _ => False
  | .obj id _ => id = d
  | _ => True

structure CtxD (C : Ctx K) : Prop where
  zero : ∀ t l, C.zero t = some l → ∀ a ∈ l, AtOK0 a
  build : ∀ t ps l, C.build t ps = some l → ∀ a ∈ l, AtOK0 a ∨ ∃ p ∈ ps, ∃ m, p.2 = .one m ∧ a ∈ m
  con : ∀ f args outs, C.con f args = some outs → ∀ (i : Nat) oc, outs[i]? = some oc → ∀ d, (oc.r d).all (At.inD1 d)

theorem AtOK0.inD {x : At K} {dom : Nat → Bool} (h : AtOK0 x) : x.inD dom := by cases x <;> simp_all [AtOK0, At.inD]

theorem inD_upd {x : At K} {dom : Nat → Bool} {d : Nat} (h : x.inD dom) : x.inD (upd dom d true) := by
  cases x <;> simp only [At.inD] at h ⊢
  all_goals
    rename_i id _
    by_cases hid : id = d
    · subst hid; exact upd_same _ _ _
    · rw [upd_ne _ _ hid]; exact h

theorem valsOf_inD (h : Wf σ) {x : Operand} {nt : Nat} {v : SV K} (hv : valsOf nt σ.slots x = some v) : v.all (At.inD σ.dom) := by
  unfold valsOf at hv
  split at hv
  · rename_i t
    cases hb : Nat.blt t nt with
    | false => rw [hb] at hv; cases hv
    | true =>
      rw [hb] at hv
      simp only [cond_true, Option.some.injEq] at hv
      subst hv
      exact h.slots t
  all_goals first
    | (simp only [Option.some.injEq] at hv; subst hv; simp [SV.all, At.inD])
    | cases hv

theorem allParts_inD (h : Wf σ) {nt : Nat} : ∀ (xs : List (Nat × Operand)) (vs : List (Nat × SV K)), allParts nt σ.slots xs = some vs → ∀ s ∈ vs, s.2.all (At.inD σ.dom)
  | [], vs, hv => by simp only [allParts, Option.some.injEq] at hv; subst hv; simp
  | (i, x) :: r, vs, hv => by
    simp only [allParts] at hv
    obtain ⟨v, h1, hv⟩ := Option.bind_eq_some_iff.1 hv
    obtain ⟨vs', h2, rfl⟩ := Option.map_eq_some_iff.1 hv
    intro s hs
    rcases List.mem_cons.1 hs with rfl | hs
    · exact valsOf_inD h h1
    · exact allParts_inD h r vs' h2 s hs

/-- what an operation's value and effect name -/
def EffIn (σ : St K) (d : Option Nat) : Eff K → Prop
  | .none => True
  | .new id l _ => d = some id ∧ σ.dom id = false ∧ ∀ a ∈ l, a.inD σ.dom
  | .put id l ty => (∃ l0, σ.heap id = some (l0, ty)) ∧ ∀ a ∈ l, a.inD σ.dom
  | .own id => d = some id ∧ σ.dom id = false

def ValIn (σ : St K) (v : SV K) (e : Eff K) : Prop := v.all (At.inD (e.app σ).dom)

theorem res_in (D : CtxD C) (h : Wf σ) {orc : Nat → Nat} {o : Oper} {c : Prop} {v : SV K} {e : Eff K} (hr : res C orc o σ.slots σ.heap σ.dom = some (c, v, e)) :
    EffIn σ o.dst e ∧ ValIn σ v e := by
  have one : ∀ x : At K, (∀ dom, x.inD dom) → (SV.one [x]).all (At.inD σ.dom) := fun x hx y hy => by
    simp only [List.mem_singleton] at hy; subst hy; exact hx _
  obtain ⟨dst, op, type, pos, after, guard⟩ := o
  cases op
  case move x =>
    obtain ⟨v', h1, h2⟩ := Option.map_eq_some_iff.1 hr
    simp only [Prod.mk.injEq] at h2
    obtain ⟨rfl, rfl, rfl⟩ := h2
    exact ⟨trivial, valsOf_inD h h1⟩
  case assign x =>
    obtain ⟨v', h1, h2⟩ := Option.map_eq_some_iff.1 hr
    simp only [Prod.mk.injEq] at h2
    obtain ⟨rfl, rfl, rfl⟩ := h2
    exact ⟨trivial, valsOf_inD h h1⟩
  case pick x y z =>
    obtain ⟨vc, h1, hr⟩ := Option.bind_eq_some_iff.1 hr
    obtain ⟨b, h2, hr⟩ := Option.bind_eq_some_iff.1 hr
    obtain ⟨v', h3, h4⟩ := Option.map_eq_some_iff.1 hr
    simp only [Prod.mk.injEq] at h4
    obtain ⟨rfl, rfl, rfl⟩ := h4
    exact ⟨trivial, valsOf_inD h h3⟩
  case extract x i =>
    obtain ⟨vc, h1, hr⟩ := Option.bind_eq_some_iff.1 hr
    cases vc with
    | one l => cases hr
    | tup l =>
      obtain ⟨t, h3, h4⟩ := Option.map_eq_some_iff.1 hr
      simp only [Prod.mk.injEq] at h4
      obtain ⟨rfl, rfl, rfl⟩ := h4
      exact ⟨trivial, fun y hy => valsOf_inD h h1 t (List.mem_of_getElem? h3) y hy⟩
  case binOp bop t x y ty =>
    obtain ⟨vx, h1, hr⟩ := Option.bind_eq_some_iff.1 hr
    obtain ⟨vy, h2, hr⟩ := Option.bind_eq_some_iff.1 hr
    obtain ⟨r, h3, h4⟩ := Option.map_eq_some_iff.1 hr
    simp only [Prod.mk.injEq] at h4
    obtain ⟨rfl, rfl, rfl⟩ := h4
    exact ⟨trivial, one _ fun _ => trivial⟩
  case unOp uop t x =>
    cases uop
    case not =>
      obtain ⟨vx, h1, hr⟩ := Option.bind_eq_some_iff.1 hr
      obtain ⟨b, h2, h4⟩ := Option.map_eq_some_iff.1 hr
      simp only [Prod.mk.injEq] at h4
      obtain ⟨rfl, rfl, rfl⟩ := h4
      exact ⟨trivial, one _ fun _ => trivial⟩
    case neg =>
      obtain ⟨vx, h1, hr⟩ := Option.bind_eq_some_iff.1 hr
      obtain ⟨⟨k, n⟩, h2, hr⟩ := Option.bind_eq_some_iff.1 hr
      cases hb : decide (k = .i64 ∧ -1000 ≤ n ∧ n ≤ 1000) with
      | false => simp only [hb, cond_false, reduceCtorEq] at hr
      | true =>
        simp only [hb, cond_true, Option.some.injEq, Prod.mk.injEq] at hr
        obtain ⟨rfl, rfl, rfl⟩ := hr
        exact ⟨trivial, one _ fun _ => trivial⟩
    all_goals cases hr
  case load t x =>
    obtain ⟨vx, h1, hr⟩ := Option.bind_eq_some_iff.1 hr
    obtain ⟨⟨id, off⟩, h2, hr⟩ := Option.bind_eq_some_iff.1 hr
    obtain ⟨⟨l, ty⟩, h3, hr⟩ := Option.bind_eq_some_iff.1 hr
    obtain ⟨n, h4, hr⟩ := Option.bind_eq_some_iff.1 hr
    obtain ⟨m, h5, hr⟩ := Option.bind_eq_some_iff.1 hr
    cases hg : (isAggL m == C.agg t) with
    | false => simp only [hg, cond_false, reduceCtorEq] at hr
    | true =>
      simp only [hg, cond_true, Option.some.injEq, Prod.mk.injEq] at hr
      obtain ⟨rfl, rfl, rfl⟩ := hr
      obtain ⟨p, r, _, _, _, hmem⟩ := partC_spec ⟨fun _ => 0, fun _ => undef⟩ h5
      exact ⟨trivial, fun y hy => h.heap id l ty h3 y (hmem y hy)⟩
  case store t x y =>
    obtain ⟨vx, h1, hr⟩ := Option.bind_eq_some_iff.1 hr
    obtain ⟨⟨id, off⟩, h2, hr⟩ := Option.bind_eq_some_iff.1 hr
    obtain ⟨⟨l, ty⟩, h3, hr⟩ := Option.bind_eq_some_iff.1 hr
    obtain ⟨vy, h6, hr⟩ := Option.bind_eq_some_iff.1 hr
    obtain ⟨new, h7, hr⟩ := Option.bind_eq_some_iff.1 hr
    obtain ⟨n, h4, hr⟩ := Option.bind_eq_some_iff.1 hr
    cases hg : Nat.beq (sizeL new) n with
    | false => simp only [hg, cond_false, reduceCtorEq] at hr
    | true =>
      simp only [hg, cond_true] at hr
      obtain ⟨l', h5, h8⟩ := Option.map_eq_some_iff.1 hr
      simp only [Prod.mk.injEq] at h8
      obtain ⟨rfl, rfl, rfl⟩ := h8
      obtain ⟨p, m, r, _, _, _, _, hmem⟩ := setC_spec ⟨fun _ => 0, fun _ => undef⟩ h5
      have k2 := valsOf_inD h h6
      rw [oneS_spec h7] at k2
      refine ⟨⟨⟨l, h3⟩, fun y hy => ?_⟩, fun m hm => by cases hm⟩
      rcases hmem y hy with hy | hy
      · exact h.heap id l ty h3 y hy
      · exact k2 y hy
  case alloc t =>
    obtain ⟨d, h1, hq⟩ := Option.bind_eq_some_iff.1 hr
    clear hr
    have h1' : dst = some d := h1
    subst h1'
    have hg : σ.dom d = false := by
      cases hg : σ.dom d with
      | false => rfl
      | true => rw [hg] at hq; cases hq
    rw [hg] at hq
    obtain ⟨l, h2, h3⟩ := Option.map_eq_some_iff.1 ((cond_false _ _).symm.trans hq)
    simp only [Prod.mk.injEq] at h3
    obtain ⟨rfl, rfl, rfl⟩ := h3
    refine ⟨⟨rfl, hg, fun y hy => (D.zero t l h2 y hy).inD⟩, fun y hy => ?_⟩
    simp only [List.mem_singleton] at hy
    subst hy
    exact upd_same _ _ _
  case box t x =>
    obtain ⟨d, h1, hq⟩ := Option.bind_eq_some_iff.1 hr
    clear hr
    have h1' : dst = some d := h1
    subst h1'
    have hg : σ.dom d = false := by
      cases hg : σ.dom d with
      | false => rfl
      | true => rw [hg] at hq; cases hq
    rw [hg] at hq
    obtain ⟨vx, h2, hr⟩ := Option.bind_eq_some_iff.1 ((cond_false _ _).symm.trans hq)
    obtain ⟨l, h4, h3⟩ := Option.map_eq_some_iff.1 hr
    simp only [Prod.mk.injEq] at h3
    obtain ⟨rfl, rfl, rfl⟩ := h3
    have k1 := valsOf_inD h h2
    rw [oneS_spec h4] at k1
    refine ⟨⟨rfl, hg, k1⟩, fun y hy => ?_⟩
    simp only [List.mem_singleton] at hy
    subst hy
    exact upd_same _ _ _
  case fieldAddr st x f =>
    obtain ⟨vx, h1, hr⟩ := Option.bind_eq_some_iff.1 hr
    obtain ⟨⟨id, off⟩, h2, hr⟩ := Option.bind_eq_some_iff.1 hr
    obtain ⟨⟨k, t⟩, h3, h4⟩ := Option.map_eq_some_iff.1 hr
    simp only [Prod.mk.injEq] at h4
    obtain ⟨rfl, rfl, rfl⟩ := h4
    have k1 := valsOf_inD h h1
    rw [ptrS_spec h2] at k1
    refine ⟨trivial, fun y hy => ?_⟩
    simp only [List.mem_singleton] at hy
    subst hy
    exact k1 (.ptr id off) (by simp)
  case field st x f =>
    obtain ⟨vx, h1, hr⟩ := Option.bind_eq_some_iff.1 hr
    obtain ⟨l, h2, hr⟩ := Option.bind_eq_some_iff.1 hr
    obtain ⟨⟨k, t⟩, h3, hr⟩ := Option.bind_eq_some_iff.1 hr
    obtain ⟨n, h4, hr⟩ := Option.bind_eq_some_iff.1 hr
    obtain ⟨m, h5, hr⟩ := Option.bind_eq_some_iff.1 hr
    cases hg : (isAggL l && (isAggL m == C.agg t)) with
    | false => simp only [hg, cond_false, reduceCtorEq] at hr
    | true =>
      simp only [hg, cond_true, Option.some.injEq, Prod.mk.injEq] at hr
      obtain ⟨rfl, rfl, rfl⟩ := hr
      obtain ⟨p, r, _, _, _, hmem⟩ := partC_spec ⟨fun _ => 0, fun _ => undef⟩ h5
      have k1 := valsOf_inD h h1
      rw [oneS_spec h2] at k1
      exact ⟨trivial, fun y hy => k1 y (hmem y hy)⟩
  case build t parts =>
    obtain ⟨ps, h1, hr⟩ := Option.bind_eq_some_iff.1 hr
    obtain ⟨l, h2, h3⟩ := Option.map_eq_some_iff.1 hr
    simp only [Prod.mk.injEq] at h3
    obtain ⟨rfl, rfl, rfl⟩ := h3
    refine ⟨trivial, fun y hy => ?_⟩
    rcases D.build t ps l h2 y hy with h0 | ⟨p, hp, m, hpm, hxm⟩
    · exact h0.inD
    · have := allParts_inD h _ _ h1 p hp
      rw [hpm] at this
      exact this y hxm
  case convert src dst' x =>
    obtain ⟨vx, h1, hr⟩ := Option.bind_eq_some_iff.1 hr
    obtain ⟨⟨k, n⟩, h2, hr⟩ := Option.bind_eq_some_iff.1 hr
    obtain ⟨k', h3, h4⟩ := Option.map_eq_some_iff.1 hr
    simp only [Prod.mk.injEq] at h4
    obtain ⟨rfl, rfl, rfl⟩ := h4
    exact ⟨trivial, one _ fun _ => trivial⟩
  case call cl =>
    obtain ⟨callee, args, ats⟩ := cl
    cases callee with
    | value f =>
      obtain ⟨d, h1, hq⟩ := Option.bind_eq_some_iff.1 hr
      clear hr
      have h1' : dst = some d := h1
      subst h1'
      have hg : σ.dom d = false := by
        cases hg : σ.dom d with
        | false => rfl
        | true => rw [hg] at hq; cases hq
      rw [hg] at hq
      obtain ⟨vf, h2, hr⟩ := Option.bind_eq_some_iff.1 ((cond_false _ _).symm.trans hq)
      split at hr
      · rename_i g
        obtain ⟨vs, h3, hr⟩ := Option.bind_eq_some_iff.1 hr
        obtain ⟨outs, h4, hr⟩ := Option.bind_eq_some_iff.1 hr
        obtain ⟨oc, h5, h6⟩ := Option.map_eq_some_iff.1 hr
        simp only [Prod.mk.injEq] at h6
        obtain ⟨rfl, rfl, rfl⟩ := h6
        refine ⟨⟨rfl, hg⟩, SV.all_mono (fun x hx => ?_) (D.con g vs outs h4 _ oc h5 d)⟩
        cases x with
        | ptr id off => exact hx.elim
        | obj id k =>
          have : id = d := hx
          subst this
          exact upd_same _ _ _
        | _ => trivial
      · cases hr
    | builtin b =>
      cases b
      case len =>
        obtain ⟨vs, h1, hr⟩ := Option.bind_eq_some_iff.1 hr
        split at hr
        · rename_i id k t hat
          cases hst : C.sliceT t with
          | false => rw [hst] at hr; cases hr
          | true =>
            rw [hst] at hr
            simp only [cond_true, Option.some.injEq, Prod.mk.injEq] at hr
            obtain ⟨rfl, rfl, rfl⟩ := hr
            exact ⟨trivial, one _ fun _ => trivial⟩
        · cases hr
      all_goals cases hr
    | invoke r m => cases hr
  all_goals cases hr

theorem raw_in (D : CtxD C) (h : Wf σ) {orc : Nat → Nat} {ops : Array Oper} {o : Oper} {r : Prop × SV K × Eff K} (hr : raw C orc ops o σ = some r) : EffIn σ o.dst r.2.2 ∧ ValIn σ r.2.1 r.2.2 := by
  unfold raw at hr
  cases hd : dstB C.nt o.dst with
  | false => rw [hd] at hr; cases hr
  | true =>
    rw [hd] at hr
    simp only [cond_true] at hr
    split at hr
    · exact res_in D h hr
    · simp only [Option.some.injEq] at hr
      subst hr
      exact ⟨trivial, fun m hm => by cases hm⟩
    · cases hr

theorem app_wf (h : Wf σ) {o : Oper} {r : Prop × SV K × Eff K} (he : EffIn σ o.dst r.2.2) (hv : ValIn σ r.2.1 r.2.2) : Wf (app o r σ) := by
  obtain ⟨c, v, e⟩ := r
  have hdom : ∀ x : At K, x.inD σ.dom → x.inD (e.app σ).dom := by
    intro x hx
    cases e <;> first | exact hx | exact inD_upd hx
  have hslots : (e.app σ).slots = σ.slots := by cases e <;> rfl
  have hbase : Wf (e.app σ) := by
    refine ⟨fun i => ?_, ?_, ?_⟩
    · rw [hslots]; exact SV.all_mono hdom (h.slots i)
    · intro id l t hl x hx
      cases e with
      | none => exact h.heap id l t hl x hx
      | own d => exact hdom x (h.heap id l t hl x hx)
      | new d l' t' =>
        obtain ⟨_, _, h3⟩ := he
        have hl' : upd σ.heap d (some (l', t')) id = some (l, t) := hl
        by_cases hid : id = d
        · subst hid
          rw [upd_same] at hl'
          simp only [Option.some.injEq, Prod.mk.injEq] at hl'
          obtain ⟨rfl, rfl⟩ := hl'
          exact hdom x (h3 x hx)
        · rw [upd_ne _ _ hid] at hl'
          exact hdom x (h.heap id l t hl' x hx)
      | put d l' t' =>
        obtain ⟨_, h3⟩ := he
        have hl' : upd σ.heap d (some (l', t')) id = some (l, t) := hl
        by_cases hid : id = d
        · subst hid
          rw [upd_same] at hl'
          simp only [Option.some.injEq, Prod.mk.injEq] at hl'
          obtain ⟨rfl, rfl⟩ := hl'
          exact hdom x (h3 x hx)
        · rw [upd_ne _ _ hid] at hl'
          exact hdom x (h.heap id l t hl' x hx)
    · intro id hi
      cases e with
      | none => exact h.hdom id hi
      | own d =>
        have := h.hdom id hi
        show upd σ.dom d true id = true
        by_cases hid : id = d
        · subst hid; exact upd_same _ _ _
        · rw [upd_ne _ _ hid]; exact this
      | new d l' t' =>
        show upd σ.dom d true id = true
        by_cases hid : id = d
        · subst hid; exact upd_same _ _ _
        · rw [upd_ne _ _ hid]
          have hi' : (upd σ.heap d (some (l', t')) id).isSome = true := hi
          rw [upd_ne _ _ hid] at hi'
          exact h.hdom id hi'
      | put d l' t' =>
        obtain ⟨⟨l0, h0⟩, _⟩ := he
        show σ.dom id = true
        by_cases hid : id = d
        · subst hid; exact h.hdom id (by rw [h0]; rfl)
        · have hi' : (upd σ.heap d (some (l', t')) id).isSome = true := hi
          rw [upd_ne _ _ hid] at hi'
          exact h.hdom id hi'
  refine ⟨fun i => ?_, ?_, ?_⟩
  · show ((putS o.dst v (e.app σ)).slots i).all (At.inD (putS o.dst v (e.app σ)).dom)
    rw [putS_dom]
    cases hd : o.dst with
    | none => exact hbase.slots i
    | some d =>
      show (upd (e.app σ).slots d v i).all _
      by_cases hid : i = d
      · subst hid; rw [upd_same]; exact hv
      · rw [upd_ne _ _ hid]; exact hbase.slots i
  · show ∀ id l t, (putS o.dst v (e.app σ)).heap id = some (l, t) → ∀ a ∈ l, a.inD (putS o.dst v (e.app σ)).dom
    rw [putS_dom, putS_heap]
    exact hbase.heap
  · show ∀ id, ((putS o.dst v (e.app σ)).heap id).isSome = true → (putS o.dst v (e.app σ)).dom id = true
    rw [putS_dom, putS_heap]
    exact hbase.hdom

end Go.Proofs.Ytmjdmhelmgcanaa
