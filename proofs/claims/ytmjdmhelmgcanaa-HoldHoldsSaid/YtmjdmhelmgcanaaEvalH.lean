/- An evaluation of straight Go code: a piece of code, a function. -/
import Derived.Test.YtmjdmhelmgcanaaEvalG
namespace Go.Proofs.Ytmjdmhelmgcanaa
open Go.RowKit
variable {K : Type} {P : Program} {C : Ctx K} {σ σ' : St K} {ρ ρ' : Env} {w0 w w' : World} {a : Act}

inductive Out where
  | norm
  | exit (id : Nat)
  | ret

def Out.to : Out → Exit
  | .norm => .normal
  | .exit id => .exit id
  | .ret => .ret

def Out.inBlock (id : Nat) : Out → Out
  | .exit i => bif Nat.beq i id then .norm else .exit i
  | o => o

def loopN (f : St K → Option (List Prop × Out × St K)) : Nat → St K → Option (List Prop × Out × St K)
  | 0, _ => none
  | n + 1, σ => (f σ).bind fun q => match q.2.1 with
    | .norm => (loopN f n q.2.2).map fun q' => (q.1 ++ q'.1, q'.2)
    | _ => some q

def evalC (C : Ctx K) (orc : Nat → Nat) : Code → St K → Option (List Prop × Out × St K)
  | .skip, σ => some ([], .norm, σ)
  | .region _ ops draw, σ => bif draw && !lexI ops ops.size 0 (Array.replicate ops.size false) then none else (runL C orc ops ops.toList σ).map fun q => (q.1, .norm, q.2)
  | .seq x y, σ => (evalC C orc x σ).bind fun q => match q.2.1 with
    | .norm => (evalC C orc y q.2.2).map fun q' => (q.1 ++ q'.1, q'.2)
    | _ => some q
  | .cond c x y, σ => (valsOf C.nt σ.slots c).bind fun v => (boolS v).bind fun b => bif b then evalC C orc x σ else evalC C orc y σ
  | .block id x, σ => (evalC C orc x σ).map fun q => (q.1, q.2.1.inBlock id, q.2.2)
  | .loop x, σ => loopN (fun s => evalC C orc x s) 64 σ
  | .exit id, σ => some ([], .exit id, σ)
  | .ret, σ => some ([], .ret, σ)
  | _, _ => none

theorem evalC_sound (OK : CtxOK P C) (D : CtxD C) (hm : P.follows .mixedOrders = true) {orc : Nat → Nat} : ∀ (c : Code) (σ : St K) (ρ : Env) (a : Act) (w : World) (Q : Exit → Act → World → Prop) (cs : List Prop) (o : Out) (σ' : St K),
    evalC C orc c σ = some (cs, o, σ') → conj cs → Rep C w0 ρ σ a w → (∀ ρ' a' w', Rep C w0 ρ' σ' a' w' → Q o.to a' w') → c.wp P Q a w := by
  intro c
  induction c with
  | skip =>
    intro σ ρ a w Q cs o σ' h hc hr hQ
    simp only [evalC, Option.some.injEq, Prod.mk.injEq] at h
    obtain ⟨_, rfl, rfl⟩ := h
    exact wp_skip (hQ ρ _ _ hr)
  | region id ops draw =>
    intro σ ρ a w Q cs o σ' h hc hr hQ
    simp only [evalC] at h
    cases draw with
    | false =>
      simp only [Bool.false_and, cond_false] at h
      obtain ⟨q, h1, h2⟩ := Option.map_eq_some_iff.1 h
      simp only [Prod.mk.injEq] at h2
      obtain ⟨rfl, rfl, rfl⟩ := h2
      exact region_sound OK h1 hc hr hQ
    | true =>
      cases hB : lexI ops ops.size 0 (Array.replicate ops.size false) with
      | false => rw [hB] at h; cases h
      | true =>
        rw [hB] at h
        simp only [Bool.not_true, Bool.and_false, cond_false] at h
        obtain ⟨q, h1, h2⟩ := Option.map_eq_some_iff.1 h
        simp only [Prod.mk.injEq] at h2
        obtain ⟨rfl, rfl, rfl⟩ := h2
        exact region_draw_sound OK D hm hB h1 hc hr hQ
  | seq x y ihx ihy =>
    intro σ ρ a w Q cs o σ' h hc hr hQ
    simp only [evalC] at h
    obtain ⟨⟨cs1, o1, σ1⟩, h1, h2⟩ := Option.bind_eq_some_iff.1 h
    refine wp_seq ?_
    cases o1 with
    | norm =>
      obtain ⟨⟨cs2, o2, σ2⟩, h3, h4⟩ := Option.map_eq_some_iff.1 h2
      simp only [Prod.mk.injEq] at h4
      obtain ⟨rfl, rfl, rfl⟩ := h4
      rw [conj_append] at hc
      exact ihx σ ρ a w _ cs1 .norm σ1 h1 hc.1 hr fun ρ' a' w' h' => ihy σ1 ρ' a' w' Q cs2 o2 σ2 h3 hc.2 h' hQ
    | exit id =>
      simp only [Option.some.injEq, Prod.mk.injEq] at h2
      obtain ⟨rfl, rfl, rfl⟩ := h2
      exact ihx σ ρ a w _ cs1 (.exit id) σ1 h1 hc hr fun ρ' a' w' h' => hQ ρ' a' w' h'
    | ret =>
      simp only [Option.some.injEq, Prod.mk.injEq] at h2
      obtain ⟨rfl, rfl, rfl⟩ := h2
      exact ihx σ ρ a w _ cs1 .ret σ1 h1 hc hr fun ρ' a' w' h' => hQ ρ' a' w' h'
  | cond c x y ihx ihy =>
    intro σ ρ a w Q cs o σ' h hc hr hQ
    simp only [evalC] at h
    obtain ⟨v, h1, h⟩ := Option.bind_eq_some_iff.1 h
    obtain ⟨b, h2, h⟩ := Option.bind_eq_some_iff.1 h
    obtain ⟨e1, _⟩ := valsOf_spec hr h1
    rw [boolS_spec h2] at e1
    have e1' : a.eval c = .bool b := e1
    cases b with
    | true => exact wp_cond_true e1' (ihx σ ρ a w Q cs o σ' h hc hr hQ)
    | false => exact wp_cond_false e1' (ihy σ ρ a w Q cs o σ' h hc hr hQ)
  | block id x ih =>
    intro σ ρ a w Q cs o σ' h hc hr hQ
    simp only [evalC] at h
    obtain ⟨⟨cs1, o1, σ1⟩, h1, h2⟩ := Option.map_eq_some_iff.1 h
    simp only [Prod.mk.injEq] at h2
    obtain ⟨rfl, rfl, rfl⟩ := h2
    refine wp_block (ih σ ρ a w _ cs1 o1 σ1 h1 hc hr fun ρ' a' w' h' => ?_)
    have := hQ ρ' a' w' h'
    cases o1 with
    | norm => exact this
    | ret => exact this
    | exit i =>
      show Exit.inBlock id Q (.exit i) a' w'
      cases hb : Nat.beq i id with
      | true =>
        have hi : i = id := Nat.eq_of_beq_eq_true hb
        simp only [Out.inBlock, hb, cond_true, Out.to] at this
        simp only [Exit.inBlock, hi, if_true]
        exact this
      | false =>
        have hi : i ≠ id := fun e => by subst e; simp at hb
        simp only [Out.inBlock, hb, cond_false, Out.to] at this
        simp only [Exit.inBlock, hi, if_false]
        exact this
  | loop x ih =>
    intro σ ρ a w Q cs o σ' h hc hr hQ
    simp only [evalC] at h
    refine wp_loop_rounds 64 ?_
    have key : ∀ (n : Nat) (σ : St K) (ρ : Env) (a : Act) (w : World) (cs : List Prop), loopN (fun s => evalC C orc x s) n σ = some (cs, o, σ') → conj cs → Rep C w0 ρ σ a w → Code.rounds P x Q n a w := by
      intro n
      induction n with
      | zero => intro σ ρ a w cs h; cases h
      | succ n ihn =>
        intro σ ρ a w cs h hc hr
        simp only [loopN] at h
        obtain ⟨⟨cs1, o1, σ1⟩, h1, h2⟩ := Option.bind_eq_some_iff.1 h
        rw [rounds_succ]
        cases o1 with
        | norm =>
          obtain ⟨⟨cs2, o2, σ2⟩, h3, h4⟩ := Option.map_eq_some_iff.1 h2
          simp only [Prod.mk.injEq] at h4
          obtain ⟨rfl, rfl, rfl⟩ := h4
          rw [conj_append] at hc
          exact ih σ ρ a w _ cs1 .norm σ1 h1 hc.1 hr fun ρ' a' w' h' => ihn σ1 ρ' a' w' cs2 h3 hc.2 h'
        | exit id =>
          simp only [Option.some.injEq, Prod.mk.injEq] at h2
          obtain ⟨rfl, rfl, rfl⟩ := h2
          exact ih σ ρ a w _ cs1 (.exit id) σ1 h1 hc hr fun ρ' a' w' h' => hQ ρ' a' w' h'
        | ret =>
          simp only [Option.some.injEq, Prod.mk.injEq] at h2
          obtain ⟨rfl, rfl, rfl⟩ := h2
          exact ih σ ρ a w _ cs1 .ret σ1 h1 hc hr fun ρ' a' w' h' => hQ ρ' a' w' h'
    exact key 64 σ ρ a w cs h hc hr
  | exit id =>
    intro σ ρ a w Q cs o σ' h hc hr hQ
    simp only [evalC, Option.some.injEq, Prod.mk.injEq] at h
    obtain ⟨_, rfl, rfl⟩ := h
    exact wp_exit (hQ ρ _ _ hr)
  | ret =>
    intro σ ρ a w Q cs o σ' h hc hr hQ
    simp only [evalC, Option.some.injEq, Prod.mk.injEq] at h
    obtain ⟨_, rfl, rfl⟩ := h
    exact wp_ret (hQ ρ _ _ hr)
  | rangeFunc => intro σ ρ a w Q cs o σ' h; cases h
  | scope => intro σ ρ a w Q cs o σ' h; cases h
  | label => intro σ ρ a w Q cs o σ' h; cases h
  | goto => intro σ ρ a w Q cs o σ' h; cases h
  | refuse => intro σ ρ a w Q cs o σ' h; cases h

/-- where the results are -/
def resOf (C : Ctx K) (σ : St K) : ResultVar → Option (List (At K))
  | .tmp t => bif Nat.blt t C.nt then oneS (σ.slots t) else none
  | .cell p t => bif Nat.blt p C.nt then (ptrS (σ.slots p)).bind fun q => bif Nat.beq q.2 0 then (σ.heap q.1).bind fun lt => (C.size t).bind fun n =>
      bif Nat.beq n (sizeL lt.1) && (isAggL lt.1 == C.agg t) then some lt.1 else none else none else none

def oneRes (r : ResultVar) (tmps : Array Value) : Sem Value :=
  match r with
  | .tmp t => pure (tmps.getD t undef)
  | .cell a t => do loadVar t (← asAddr (tmps.getD a undef))

theorem oneRes_run (OK : CtxOK P C) (h : Rep C w0 ρ σ a w) {r : ResultVar} {l : List (At K)} (hr : resOf C σ r = some l) : (oneRes r a.tmps).run P w = .ok (denL ρ l) w ∧ ∀ x ∈ l, AtOK C σ ρ w x := by
  cases r with
  | tmp t =>
    simp only [resOf] at hr
    cases hb : Nat.blt t C.nt with
    | false => rw [hb] at hr; cases hr
    | true =>
      rw [hb] at hr
      have h1 := oneS_spec ((cond_true _ _).symm.trans hr)
      have h2 := h.slots t (Nat.le_of_ble_eq_true hb)
      have h3 := h.okS t
      rw [h1] at h2 h3
      refine ⟨?_, h3⟩
      have h2' : a.tmps.getD t undef = denL ρ l := h2
      simp only [oneRes, h2']
      rfl
  | cell p t =>
    simp only [resOf] at hr
    cases hb : Nat.blt p C.nt with
    | false => rw [hb] at hr; cases hr
    | true =>
      rw [hb] at hr
      obtain ⟨⟨id, off⟩, h1, hr⟩ := Option.bind_eq_some_iff.1 ((cond_true _ _).symm.trans hr)
      cases hoff : Nat.beq off 0 with
      | false => simp only [hoff, cond_false, reduceCtorEq] at hr
      | true =>
        simp only [hoff, cond_true] at hr
        obtain rfl : off = 0 := Nat.eq_of_beq_eq_true hoff
        obtain ⟨⟨m, ty⟩, h3, hr⟩ := Option.bind_eq_some_iff.1 hr
        obtain ⟨n, h4, hr⟩ := Option.bind_eq_some_iff.1 hr
        cases hg : (Nat.beq n (sizeL m) && (isAggL m == C.agg t)) with
        | false => simp only [hg, cond_false, reduceCtorEq] at hr
        | true =>
          simp only [hg, cond_true, Option.some.injEq] at hr
          subst hr
          rw [Bool.and_eq_true] at hg
          have hn : n = sizeL m := Nat.eq_of_beq_eq_true hg.1
          have hg' : isAggL m = C.agg t := by simpa using hg.2
          have h2 := h.slots p (Nat.le_of_ble_eq_true hb)
          rw [ptrS_spec h1] at h2
          have h2' : a.tmps.getD p undef = .pointer (some ⟨ρ.b id, 0, none⟩) := h2
          obtain ⟨hB, hcell⟩ := h.cells id m ty h3
          refine ⟨?_, h.okH id m ty h3⟩
          have hread : ∀ j v, (cellsL ρ m)[j]? = some v → w.cell? ((⟨ρ.b id, 0, none⟩ : Addr).add j) = some v := by
            intro j v hv
            have hadd : (⟨ρ.b id, 0, none⟩ : Addr).add j = ⟨ρ.b id, j, none⟩ := by unfold Addr.add; split <;> simp_all
            rw [hadd, cell_of_row w _ _ _ _ _ hcell]
            simpa using hv
          have hload : (loadVar t ⟨ρ.b id, 0, none⟩).run P w = .ok (denL ρ m) w := by
            unfold loadVar
            rw [Sem.run_bind, OK.agg t n h4 w, ← hg']
            cases hgm : isAggL m with
            | true =>
              have := run_loadCells_list (P := P) w ⟨ρ.b id, 0, none⟩ (cellsL ρ m) hread
              rw [cellsL_length, ← hn] at this
              simp [Result.andThen, Sem.run_bind, OK.size t n h4 w, this, denL_agg _ hgm]
            | false =>
              obtain ⟨y, rfl, e2, e3, _⟩ := denL_one ρ hgm
              have := hread 0 (y.val ρ) (by rw [e3]; rfl)
              have h0 : (⟨ρ.b id, 0, none⟩ : Addr).add 0 = ⟨ρ.b id, 0, none⟩ := by simp [Addr.add]
              rw [h0] at this
              simp [Result.andThen, load, Sem.run, this, e2]
          simp only [oneRes, h2']
          simp [asAddr, hload]

def resAll (C : Ctx K) (σ : St K) : List ResultVar → Option (SV K)
  | [r] => (resOf C σ r).map .one
  | [r, s] => (resOf C σ r).bind fun x => (resOf C σ s).map fun y => .tup [x, y]
  | _ => none

theorem resAll_run (OK : CtxOK P C) (h : Rep C w0 ρ σ a w) {fn : Func} {v : SV K} (hr : resAll C σ fn.results.toList = some v) : (results fn a.tmps).run P w = .ok (v.den ρ) w ∧ v.all (AtOK C σ ρ w) := by
  unfold resAll at hr
  split at hr
  · rename_i r hl
    obtain ⟨l, h1, rfl⟩ := Option.map_eq_some_iff.1 hr
    obtain ⟨h2, h3⟩ := oneRes_run OK h h1
    have hfn : fn.results = #[r] := by apply Array.ext'; simpa using hl
    refine ⟨?_, h3⟩
    unfold results
    rw [hfn]
    have : (oneRes r a.tmps).run P w = .ok (denL ρ l) w := h2
    cases r <;> simp only [oneRes] at this <;> simp [SV.den] <;> simpa using this
  · rename_i r s hl
    obtain ⟨x, h1, hr⟩ := Option.bind_eq_some_iff.1 hr
    obtain ⟨y, h1', rfl⟩ := Option.map_eq_some_iff.1 hr
    obtain ⟨h2, h3⟩ := oneRes_run OK h h1
    obtain ⟨h2', h3'⟩ := oneRes_run OK h h1'
    have hfn : fn.results = #[r, s] := by apply Array.ext'; simpa using hl
    refine ⟨?_, ?_⟩
    · have e1 : (oneRes r a.tmps).run P w = .ok (denL ρ x) w := h2
      have e2 : (oneRes s a.tmps).run P w = .ok (denL ρ y) w := h2'
      have : (results fn a.tmps).run P w = (do let u ← oneRes r a.tmps; let v ← oneRes s a.tmps; pure (.tuple #[u, v]) : Sem Value).run P w := by
        unfold results
        rw [hfn]
        cases r <;> cases s <;> simp [oneRes]
      rw [this]
      simp [e1, e2, SV.den]
    · intro m hm
      simp only [List.mem_cons, List.not_mem_nil, or_false] at hm
      rcases hm with rfl | rfl
      · exact h3
      · exact h3'
  · cases hr

/-- the state in which a call begins -/
def start (args : List (SV K)) : St K := { slots := fun i => (args[i]?).getD (.tup []), heap := fun _ => none, dom := fun i => Nat.ble 1000 i }

/-- What a function comes to. -/
def evalF (C : Ctx K) (orc : Nat → Nat) (fn : Func) (args : List (SV K)) : Option (List Prop × SV K) :=
  bif Nat.ble args.length C.nt then (fn.body.bind fun c => (evalC C orc c (start args)).bind fun q => match q.2.1 with
    | .exit _ => none
    | _ => (resAll C q.2.2 fn.results.toList).map fun v => (q.1, v)) else none

/-- what a function is handed -/
def InOK (C : Ctx K) (ρ : Env) (w : World) : At K → Prop
  | .big n x => x < pw n
  | .obj id k => 1000 ≤ id ∧ C.inv k (ρ.v id) w ∧ ∀ b, (ρ.v id).ownBlock = some b → b < w.heap.size
  | .ptr _ _ => False
  | _ => True

theorem fn_sound (OK : CtxOK P C) (D : CtxD C) (hm : P.follows .mixedOrders = true) {orc : Nat → Nat} {f : FuncId} {fn : Func} (hf : P.funcs[f]? = some fn) (hnt : fn.ntmps = C.nt) {args : List (SV K)} {cs : List Prop} {v : SV K}
    (he : evalF C orc fn args = some (cs, v)) (hc : conj cs) (ρ : Env) (w : World) (hargs : ∀ s ∈ args, s.all (InOK C ρ w)) :
    Calls P f (args.map (SV.den ρ)).toArray w fun e w' => Below w.heap.size w w' ∧ ∃ ρ', e = .returned (v.den ρ') := by
  unfold evalF at he
  cases hlen : Nat.ble args.length C.nt with
  | false => rw [hlen] at he; cases he
  | true =>
    rw [hlen] at he
    have hlen' : args.length ≤ C.nt := Nat.le_of_ble_eq_true hlen
    obtain ⟨c, hb, he⟩ := Option.bind_eq_some_iff.1 ((cond_true _ _).symm.trans he)
    obtain ⟨⟨cs1, o, σ1⟩, h1, h2⟩ := Option.bind_eq_some_iff.1 he
    have hrep : Rep C w ρ (start args) { tmps := (args.map (SV.den ρ)).toArray ++ Array.replicate (fn.ntmps - (args.map (SV.den ρ)).toArray.size) undef, defers := [] } w := by
      have hin : ∀ x : At K, InOK C ρ w x → AtOK C (start args) ρ w x := by
        intro x hx
        cases x with
        | big n x => exact hx
        | ptr id off => exact hx.elim
        | obj id k => exact ⟨Nat.ble_eq_true_of_le hx.1, hx.2.1, fun b hb => ⟨hx.2.2 b hb, fun i hi => (by cases hi)⟩⟩
        | _ => trivial
      refine ⟨?_, rfl, ?_, Below.refl _ _, fun id l t h => (by cases h), fun i j h => (by cases h), ?_, fun id l t h => (by cases h), fun id h => (by cases h)⟩
      · simp only [Array.size_append, List.size_toArray, List.length_map, Array.size_replicate]; omega
      · intro i hi
        simp only [Act.eval, start]
        by_cases hlt : i < args.length
        · simp [Array.getElem?_append, hlt]
        · have hn : args[i]? = none := by simp; omega
          have : i - args.length < fn.ntmps - args.length := by omega
          simp [Array.getElem?_append, hlt, this, SV.den, undef]
      · intro i
        simp only [start]
        cases ha : args[i]? with
        | none => intro m hm; cases hm
        | some s => exact SV.all_mono hin (hargs s (List.mem_of_getElem? ha))
    have fin : ∀ (σ' : St K) (v : SV K), resAll C σ' fn.results.toList = some v → ∀ (ρ' : Env) (a' : Act) (w' : World), Rep C w ρ' σ' a' w' →
        a'.defers = [] ∧ ∃ u, (results fn a'.tmps).run P w' = .ok u w' ∧ (Below w.heap.size w w' ∧ ∃ ρ', Ending.returned u = .returned (v.den ρ')) := fun σ' v hv ρ' a' w' h' =>
      ⟨h'.defers, _, (resAll_run OK h' hv).1, h'.below, ρ', rfl⟩
    refine calls_of_wp hf hb ?_
    cases o with
    | exit id => cases h2
    | norm =>
      obtain ⟨u, h3, h4⟩ := Option.map_eq_some_iff.1 h2
      simp only [Prod.mk.injEq] at h4
      obtain ⟨rfl, rfl⟩ := h4
      exact evalC_sound OK D hm c _ ρ _ w _ cs1 .norm σ1 h1 hc hrep fun ρ' a' w' h' => fin σ1 u h3 ρ' a' w' h'
    | ret =>
      obtain ⟨u, h3, h4⟩ := Option.map_eq_some_iff.1 h2
      simp only [Prod.mk.injEq] at h4
      obtain ⟨rfl, rfl⟩ := h4
      exact evalC_sound OK D hm c _ ρ _ w _ cs1 .ret σ1 h1 hc hrep fun ρ' a' w' h' => fin σ1 u h3 ρ' a' w' h'

end Go.Proofs.Ytmjdmhelmgcanaa
