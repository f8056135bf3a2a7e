/- An evaluation of straight Go code: an operation does what the evaluation says. -/
import Derived.Test.YtmjdmhelmgcanaaEvalC
namespace Go.Proofs.Ytmjdmhelmgcanaa
open Go.RowKit
variable {K : Type} {P : Program} {C : Ctx K} {σ σ' : St K} {ρ ρ' : Env} {w0 w w' : World} {a : Act}

theorem wp_val {o : Oper} {v : Value} {K' : Act → World → Prop} {Q : Exit → Act → World → Prop} (h : (execOp a.eval o).run P w = .ok (.value v) w') (hk : K' (a.put o.dst v) w') : o.wp P a w K' Q := by
  unfold Oper.wp; rw [h]; exact hk
theorem wp_skp {o : Oper} {K' : Act → World → Prop} {Q : Exit → Act → World → Prop} (h : (execOp a.eval o).run P w = .ok .skip w') (hk : K' (a.put o.dst undef) w') : o.wp P a w K' Q := by
  unfold Oper.wp; rw [h]; exact hk

theorem AtOK0.ok {x : At K} (h : AtOK0 x) : AtOK C σ ρ w x := by
  cases x <;> simp_all [AtOK0, AtOK]

theorem cells_denL (I : CtxInv C) {l : List (At K)} (h : ∀ x ∈ l, AtOK C σ ρ w x) : (denL ρ l).cells = (cellsL ρ l).toArray := by
  cases hg : isAggL l with
  | true => rw [denL_agg _ hg]; rfl
  | false =>
    obtain ⟨x, rfl, h1, h2, _⟩ := denL_one ρ hg
    rw [h1, h2]
    have hx := h x (by simp)
    cases x with
    | obj id k =>
      obtain ⟨a, n, c, e⟩ := I.cell _ _ _ hx.2.1
      simp only [At.val, e]; rfl
    | big n x => simp [isAggL] at hg
    | _ => rfl

/-- a value comes, no more -/
theorem fin_pure (h : Rep C w0 ρ σ a w) {o : Oper} (hd : dstIn C.nt o.dst) {v : SV K} (hv : v.all (AtOK C σ ρ w)) (hrun : (execOp a.eval o).run P w = .ok (.value (v.den ρ)) w)
    {K' : Act → World → Prop} {Q : Exit → Act → World → Prop} (hK : ∀ ρ' a' w', Rep C w0 ρ' (putS o.dst v ((Eff.none : Eff K).app σ)) a' w' → K' a' w') : o.wp P a w K' Q :=
  wp_val hrun (hK _ _ _ (h.put hd hv))

/-- a variable comes -/
theorem fin_new (I : CtxInv C) (h : Rep C w0 ρ σ a w) {o : Oper} {d : Nat} (hdst : o.dst = some d) (hd : d < C.nt) (hfree : σ.dom d = false) {l : List (At K)} {t : TypeId} (hl : ∀ x ∈ l, AtOK C σ ρ w x)
    (hrun : (execOp a.eval o).run P w = .ok (.value (.pointer (some ⟨w.heap.size, 0, none⟩))) (w.alloc (.cells (cellsL ρ l).toArray t)))
    {K' : Act → World → Prop} {Q : Exit → Act → World → Prop} (hK : ∀ ρ' a' w', Rep C w0 ρ' (putS o.dst (.one [.ptr d 0]) ((Eff.new d l t : Eff K).app σ)) a' w' → K' a' w') : o.wp P a w K' Q := by
  have hg := h.goes I hfree (ρ' := { ρ with b := upd ρ.b d w.heap.size }) (w' := w.alloc (.cells (cellsL ρ l).toArray t))
    (fun i hi => upd_ne _ _ hi) (fun _ _ => rfl) (fun b hb => heap_push_old w _ hb) (by simp) rfl rfl rfl (some (l, t))
    (fun l' t' e => by
      simp only [Option.some.injEq, Prod.mk.injEq] at e
      obtain ⟨rfl, rfl⟩ := e
      refine ⟨by simp only [upd_same]; exact Nat.le_refl _, ?_, hl⟩
      simp only [upd_same]
      exact heap_alloc_new w _)
  refine wp_val hrun ?_
  have := hg.1.put (d := o.dst) (v := .one [.ptr d 0]) (by rw [hdst]; exact hd) (by
    intro x hx
    simp only [List.mem_singleton] at hx
    subst hx
    exact ⟨upd_same _ _ _, by simp only [newH, upd_same]; rfl⟩)
  have e : (SV.one [At.ptr d 0] : SV K).den { ρ with b := upd ρ.b d w.heap.size } = .pointer (some ⟨w.heap.size, 0, none⟩) := by
    simp [SV.den, denL, At.val, upd_same]
  rw [e] at this
  exact hK _ _ _ this

/-- a variable is written over -/
theorem fin_put (I : CtxInv C) (h : Rep C w0 ρ σ a w) {o : Oper} (hd : dstIn C.nt o.dst) {id : Nat} {l l' : List (At K)} {ty : TypeId} (hl : σ.heap id = some (l, ty)) (hl' : ∀ x ∈ l', AtOK C σ ρ w x)
    (hrun : (execOp a.eval o).run P w = .ok .skip (w.setRow (ρ.b id) (cellsL ρ l').toArray))
    {K' : Act → World → Prop} {Q : Exit → Act → World → Prop} (hK : ∀ ρ' a' w', Rep C w0 ρ' (putS o.dst (.tup []) ((Eff.put id l' ty : Eff K).app σ)) a' w' → K' a' w') : o.wp P a w K' Q := by
  obtain ⟨hB, hg⟩ := h.cells id l ty hl
  have hs : (w.setRow (ρ.b id) (cellsL ρ l').toArray).heap[ρ.b id]? = some (.cells (cellsL ρ l').toArray ty (0, 0)) := setRow_heap w _ _ _ _ _ hg
  have ho : ∀ b, b ≠ ρ.b id → (w.setRow (ρ.b id) (cellsL ρ l').toArray).heap[b]? = w.heap[b]? := fun b hb => setRow_other w _ _ _ hb
  have hmono : ∀ x, AtOK C σ ρ w x → AtOK C ((Eff.put id l' ty : Eff K).app σ) ρ (w.setRow (ρ.b id) (cellsL ρ l').toArray) x := by
    intro x hx
    refine hx.mono I (fun _ h => h) ?_ (fun _ _ => rfl) (by simp) ?_ ?_
    · intro i hi
      show (upd σ.heap id (some (l', ty)) i).isSome = true
      by_cases hid : i = id
      · subst hid; rw [upd_same]; rfl
      · rw [upd_ne _ _ hid]; exact hi
    · intro b _ hb
      exact ho b fun e => hb id (by rw [hl]; rfl) e.symm
    · intro i hi
      have hi' : (σ.heap i).isSome = true := by
        by_cases hid : i = id
        · subst hid; rw [hl]; rfl
        · have h2 : (upd σ.heap id (some (l', ty)) i).isSome = true := hi
          rw [upd_ne _ _ hid] at h2; exact h2
      exact .inl ⟨hi', rfl⟩
  have hdomSome : ∀ i, ((upd σ.heap id (some (l', ty))) i).isSome = true → (σ.heap i).isSome = true := by
    intro i hi
    by_cases hid : i = id
    · subst hid; rw [hl]; rfl
    · rw [upd_ne _ _ hid] at hi; exact hi
  have hrep : Rep C w0 ρ ((Eff.put id l' ty : Eff K).app σ) a (w.setRow (ρ.b id) (cellsL ρ l').toArray) := by
    refine ⟨h.size, h.defers, h.slots, ?_, ?_, ?_, ?_, ?_, ?_⟩
    · exact h.below.trans ⟨rfl, rfl, rfl, by simp, fun k hk => ho k (by omega)⟩
    · intro i m t hm
      have hm' : upd σ.heap id (some (l', ty)) i = some (m, t) := hm
      by_cases hid : i = id
      · subst hid
        rw [upd_same] at hm'
        simp only [Option.some.injEq, Prod.mk.injEq] at hm'
        obtain ⟨rfl, rfl⟩ := hm'
        exact ⟨hB, hs⟩
      · rw [upd_ne _ _ hid] at hm'
        obtain ⟨h1, h2⟩ := h.cells i m t hm'
        refine ⟨h1, ?_⟩
        rw [ho _ fun e => hid (h.inj i id (by rw [hm']; rfl) (by rw [hl]; rfl) e)]
        exact h2
    · intro i j hi hj
      exact h.inj i j (hdomSome i hi) (hdomSome j hj)
    · intro i
      exact SV.all_mono hmono (h.okS i)
    · intro i m t hm x hx
      have hm' : upd σ.heap id (some (l', ty)) i = some (m, t) := hm
      by_cases hid : i = id
      · subst hid
        rw [upd_same] at hm'
        simp only [Option.some.injEq, Prod.mk.injEq] at hm'
        obtain ⟨rfl, rfl⟩ := hm'
        exact hmono x (hl' x hx)
      · rw [upd_ne _ _ hid] at hm'
        exact hmono x (h.okH i m t hm' x hx)
    · intro i hi
      exact h.hdom i (hdomSome i hi)
  refine wp_skp hrun (hK ρ _ _ ?_)
  have := hrep.put (d := o.dst) hd (v := .tup []) (fun m hm => by cases hm)
  exact this

/-- a call ends -/
theorem fin_call (OK : CtxOK P C) (h : Rep C w0 ρ σ a w) {o : Oper} {d : Nat} (hdst : o.dst = some d) (hd : d < C.nt) (hfree : σ.dom d = false) {f : FuncId} {vs : List (SV K)} (hvs : ∀ s ∈ vs, s.all (AtOK C σ ρ w))
    {outs : List (Outc K)} (hcon : C.con f vs = some outs) {i : Nat} {oc : Outc K} (hoc : outs[i]? = some oc) (hc : oc.c)
    (hexec : execOp a.eval o = callFunc f (vs.map (SV.den ρ)).toArray)
    {K' : Act → World → Prop} {Q : Exit → Act → World → Prop} (hK : ∀ ρ' a' w', Rep C w0 ρ' (putS o.dst (oc.r d) ((Eff.own d : Eff K).app σ)) a' w' → K' a' w') : o.wp P a w K' Q := by
  have hne : ∀ i, σ.dom i = true → i ≠ d := fun i hi e => by subst e; rw [hfree] at hi; cases hi
  obtain ⟨hent, hcalls⟩ := OK.con f vs outs hcon i oc hoc hc ρ w d
    (fun s hs => SV.all_mono (fun x hx => by
      cases x with
      | obj id k => exact ⟨hx.2.1, fun b hb => (hx.2.2 b hb).1⟩
      | big n x => exact hx
      | _ => trivial) (hvs s hs))
    (fun s hs => SV.all_mono (fun x hx k e => by subst e; exact hne _ hx.1 rfl) (hvs s hs))
  unfold Oper.wp
  rw [hexec, hent]
  refine hcalls.mono ?_
  rintro e w' ⟨hb, v, rfl, hr⟩
  have hg := h.goes OK.toCtxInv hfree (ρ' := { ρ with v := upd ρ.v d v }) (w' := w') (fun _ _ => rfl) (fun i hi => upd_ne _ _ hi) (fun b hlt => hb.block b hlt) hb.size hb.os hb.tape hb.output none
    (fun l t e => by cases e)
  refine hK { ρ with v := upd ρ.v d v } _ _ (hg.1.put (d := o.dst) (by rw [hdst]; exact hd) (v := oc.r d) (SV.all_mono (fun x hx => ?_) hr))
  cases x with
  | big n x => exact hx
  | obj id k =>
    obtain ⟨rfl, h2, h3⟩ := hx
    refine ⟨upd_same _ _ _, by simp only [upd_same]; exact h2, ?_⟩
    intro b hb'
    simp only [upd_same] at hb'
    obtain ⟨h4, h5⟩ := h3 b hb'
    refine ⟨h5, fun i hi => ?_⟩
    have hi' : (σ.heap i).isSome = true := hi
    obtain ⟨⟨l, t⟩, hl⟩ := Option.isSome_iff_exists.1 hi'
    have := (Array.getElem?_eq_some_iff.1 (h.cells i l t hl).2).1
    show ρ.b i ≠ b
    omega
  | ptr id off => exact hx.elim
  | _ => trivial

set_option maxHeartbeats 1000000 in
theorem res_sound (OK : CtxOK P C) (h : Rep C w0 ρ σ a w) {orc : Nat → Nat} {o : Oper} {c : Prop} {v : SV K} {e : Eff K} (hr : res C orc o σ.slots σ.heap σ.dom = some (c, v, e)) (hc : c) (hd : dstIn C.nt o.dst)
    {K' : Act → World → Prop} {Q : Exit → Act → World → Prop} (hK : ∀ ρ' a' w', Rep C w0 ρ' (putS o.dst v (e.app σ)) a' w' → K' a' w') : o.wp P a w K' Q := by
  have I := OK.toCtxInv
  obtain ⟨dst, op, type, pos, after, guard⟩ := o
  cases op
  case move x =>
    obtain ⟨v', h1, h2⟩ := Option.map_eq_some_iff.1 hr
    simp only [Prod.mk.injEq] at h2
    obtain ⟨rfl, rfl, rfl⟩ := h2
    obtain ⟨e1, k1⟩ := valsOf_spec h h1
    exact fin_pure h hd k1 (by rw [← e1]; rfl) hK
  case assign x =>
    obtain ⟨v', h1, h2⟩ := Option.map_eq_some_iff.1 hr
    simp only [Prod.mk.injEq] at h2
    obtain ⟨rfl, rfl, rfl⟩ := h2
    obtain ⟨e1, k1⟩ := valsOf_spec h h1
    exact fin_pure h hd k1 (by rw [← e1]; rfl) hK
  case pick x y z =>
    obtain ⟨vc, h1, hr⟩ := Option.bind_eq_some_iff.1 hr
    obtain ⟨b, h2, hr⟩ := Option.bind_eq_some_iff.1 hr
    obtain ⟨v', h3, h4⟩ := Option.map_eq_some_iff.1 hr
    simp only [Prod.mk.injEq] at h4
    obtain ⟨rfl, rfl, rfl⟩ := h4
    obtain ⟨e1, _⟩ := valsOf_spec h h1
    rw [boolS_spec h2] at e1
    obtain ⟨e3, k3⟩ := valsOf_spec h h3
    refine fin_pure h hd k3 ?_ hK
    rw [← e3]
    have e1' : a.eval x = .bool b := e1
    cases b <;> simp [execOp, e1', asBool]
  case extract x i =>
    obtain ⟨vc, h1, hr⟩ := Option.bind_eq_some_iff.1 hr
    cases vc with
    | one l => cases hr
    | tup l =>
      obtain ⟨t, h3, h4⟩ := Option.map_eq_some_iff.1 hr
      simp only [Prod.mk.injEq] at h4
      obtain ⟨rfl, rfl, rfl⟩ := h4
      obtain ⟨e1, k1⟩ := valsOf_spec h h1
      refine fin_pure h hd (v := .one t) (fun x hx => k1 t (List.mem_of_getElem? h3) x hx) ?_ hK
      simp [execOp, e1, SV.den, Instr.extract, h3]
  case binOp bop t x y ty =>
    obtain ⟨vx, h1, hr⟩ := Option.bind_eq_some_iff.1 hr
    obtain ⟨vy, h2, hr⟩ := Option.bind_eq_some_iff.1 hr
    obtain ⟨r, h3, h4⟩ := Option.map_eq_some_iff.1 hr
    simp only [Prod.mk.injEq] at h4
    obtain ⟨rfl, rfl, rfl⟩ := h4
    obtain ⟨e1, k1⟩ := valsOf_spec h h1
    obtain ⟨e2, k2⟩ := valsOf_spec h h2
    refine fin_pure h hd (by intro z hz; simp only [List.mem_singleton] at hz; subst hz; trivial) ?_ hK
    have := run_binR OK h3 hc k1 k2 x y
    rw [← e1, ← e2] at this
    simp only [execOp, Sem.run_bind, Sem.run_pure] at this ⊢
    rw [this]
    rfl
  case unOp uop t x =>
    cases uop
    case not =>
      obtain ⟨vx, h1, hr⟩ := Option.bind_eq_some_iff.1 hr
      obtain ⟨b, h2, h4⟩ := Option.map_eq_some_iff.1 hr
      simp only [Prod.mk.injEq] at h4
      obtain ⟨rfl, rfl, rfl⟩ := h4
      obtain ⟨e1, _⟩ := valsOf_spec h h1
      rw [boolS_spec h2] at e1
      have e1' : a.eval x = .bool b := e1
      refine fin_pure h hd (by intro z hz; simp only [List.mem_singleton] at hz; subst hz; trivial) ?_ hK
      simp [execOp, e1', Op.unary, SV.den, denL, At.val]
    case neg =>
      obtain ⟨vx, h1, hr⟩ := Option.bind_eq_some_iff.1 hr
      obtain ⟨⟨k, n⟩, h2, hr⟩ := Option.bind_eq_some_iff.1 hr
      cases hb : decide (k = .i64 ∧ -1000 ≤ n ∧ n ≤ 1000) with
      | false => simp only [hb, cond_false, reduceCtorEq] at hr
      | true =>
        simp only [hb, cond_true, Option.some.injEq, Prod.mk.injEq] at hr
        obtain ⟨rfl, rfl, rfl⟩ := hr
        obtain ⟨rfl, hn1, hn2⟩ := of_decide_eq_true hb
        obtain ⟨e1, _⟩ := valsOf_spec h h1
        rw [litS_spec h2] at e1
        have e1' : a.eval x = .int .i64 n := e1
        refine fin_pure h hd (by intro z hz; simp only [List.mem_singleton] at hz; subst hz; trivial) ?_ hK
        have hw : IntKind.i64.wrap (-n) = -n := by
          have hm : (if (-n) % 18446744073709551616 ≥ 9223372036854775808 then (-n) % 18446744073709551616 - 18446744073709551616 else (-n) % 18446744073709551616) = -n := by
            split <;> omega
          simpa [IntKind.wrap, IntKind.bits, IntKind.signed] using hm
        simp [execOp, e1', Op.unary, SV.den, denL, At.val, Op.intArith, hw]
    all_goals cases hr
  case load t x =>
    obtain ⟨vx, h1, hr⟩ := Option.bind_eq_some_iff.1 hr
    obtain ⟨⟨id, off⟩, h2, hr⟩ := Option.bind_eq_some_iff.1 hr
    obtain ⟨⟨l, ty⟩, h3, hr⟩ := Option.bind_eq_some_iff.1 hr
    obtain ⟨n, h4, hr⟩ := Option.bind_eq_some_iff.1 hr
    obtain ⟨m, h5, hr⟩ := Option.bind_eq_some_iff.1 hr
    cases hg : (isAggL m == C.agg t) with
    | false => simp only [hg, cond_false, reduceCtorEq] at hr
    | true =>
      simp only [hg, cond_true, Option.some.injEq, Prod.mk.injEq] at hr
      obtain ⟨rfl, rfl, rfl⟩ := hr
      have hg' : isAggL m = C.agg t := by simpa using hg
      obtain ⟨e1, _⟩ := valsOf_spec h h1
      rw [ptrS_spec h2] at e1
      have e1' : a.eval x = .pointer (some ⟨ρ.b id, off, none⟩) := e1
      obtain ⟨p, r, hp, hpl, hs, hmem⟩ := partC_spec ρ h5
      obtain ⟨hB, hcell⟩ := h.cells id l ty h3
      refine fin_pure h hd (v := .one m) (fun x hx => h.okH id l ty h3 x (hmem x hx)) ?_ hK
      have hread : ∀ j v, (cellsL ρ m)[j]? = some v → w.cell? ((⟨ρ.b id, off, none⟩ : Addr).add j) = some v := by
        intro j v hv
        have hadd : (⟨ρ.b id, off, none⟩ : Addr).add j = ⟨ρ.b id, off + j, none⟩ := by unfold Addr.add; split <;> simp_all
        rw [hadd, cell_of_row w _ _ _ _ _ hcell]
        have hj : j < (cellsL ρ m).length := (List.getElem?_eq_some_iff.1 hv).1
        simp only [List.getElem?_toArray]
        rw [hp, List.getElem?_append_right (by omega), hpl, show off + j - off = j by omega, List.getElem?_append_left hj]
        exact hv
      have hload : (loadVar t ⟨ρ.b id, off, none⟩).run P w = .ok (denL ρ m) w := by
        unfold loadVar
        rw [Sem.run_bind, OK.agg t n h4 w, ← hg']
        cases hgm : isAggL m with
        | true =>
          have := run_loadCells_list (P := P) w ⟨ρ.b id, off, none⟩ (cellsL ρ m) hread
          rw [cellsL_length, hs] at this
          simp [Result.andThen, Sem.run_bind, OK.size t n h4 w, this, denL_agg _ hgm]
        | false =>
          obtain ⟨y, rfl, e2, e3, _⟩ := denL_one ρ hgm
          have := hread 0 (y.val ρ) (by rw [e3]; rfl)
          have h0 : (⟨ρ.b id, off, none⟩ : Addr).add 0 = ⟨ρ.b id, off, none⟩ := by simp [Addr.add]
          rw [h0] at this
          simp [Result.andThen, load, Sem.run, this, e2]
      simp [execOp, e1', Instr.loadAt, Instr.sureAddr, hload, SV.den]
  case store t x y =>
    obtain ⟨vx, h1, hr⟩ := Option.bind_eq_some_iff.1 hr
    obtain ⟨⟨id, off⟩, h2, hr⟩ := Option.bind_eq_some_iff.1 hr
    obtain ⟨⟨l, ty⟩, h3, hr⟩ := Option.bind_eq_some_iff.1 hr
    obtain ⟨vy, h6, hr⟩ := Option.bind_eq_some_iff.1 hr
    obtain ⟨new, h7, hr⟩ := Option.bind_eq_some_iff.1 hr
    obtain ⟨n, h4, hr⟩ := Option.bind_eq_some_iff.1 hr
    cases hg : Nat.beq (sizeL new) n with
    | false => simp only [hg, cond_false, reduceCtorEq] at hr
    | true =>
      simp only [hg, cond_true] at hr
      obtain ⟨l', h5, h8⟩ := Option.map_eq_some_iff.1 hr
      simp only [Prod.mk.injEq] at h8
      obtain ⟨rfl, rfl, rfl⟩ := h8
      have hn : sizeL new = n := Nat.eq_of_beq_eq_true hg
      obtain ⟨e1, _⟩ := valsOf_spec h h1
      rw [ptrS_spec h2] at e1
      have e1' : a.eval x = .pointer (some ⟨ρ.b id, off, none⟩) := e1
      obtain ⟨e2, k2⟩ := valsOf_spec h h6
      rw [oneS_spec h7] at e2 k2
      obtain ⟨p, m, r, hp, hp', hpl, hml, hmem⟩ := setC_spec ρ h5
      obtain ⟨hB, hcell⟩ := h.cells id l ty h3
      have hc1 : (denL ρ new).cells = (cellsL ρ new).toArray := cells_denL I k2
      refine fin_put I h hd h3 (l' := l') (fun x hx => ?_) ?_ hK
      · rcases hmem x hx with hx | hx
        · exact h.okH id l ty h3 x hx
        · exact k2 x hx
      · have hst := run_storeCells_at P (ρ.b id) off ty (cellsL ρ new) 0 _ w hcell
          (by simp only [List.size_toArray, hp, List.length_append, hpl, hml, cellsL_length]; omega) (cellsL_oneCell I k2)
        have hrow : ((cellsL ρ l).toArray.toList.take (off + 0) ++ cellsL ρ new ++ (cellsL ρ l).toArray.toList.drop (off + 0 + (cellsL ρ new).length)).toArray = (cellsL ρ l').toArray := by
          congr 1
          simp only [Nat.add_zero, hp', hp]
          rw [List.take_append_of_le_length (by omega), List.take_of_length_le (by omega), List.drop_append, List.drop_of_length_le (by omega), List.drop_append,
            List.drop_of_length_le (by rw [cellsL_length, hml]; omega)]
          rw [show off + (cellsL ρ new).length - p.length - m.length = 0 by rw [cellsL_length]; omega]
          simp
        rw [hrow] at hst
        have e2' : a.eval y = denL ρ new := e2
        simp [execOp, e1', e2', Instr.storeAt, Instr.sureAddr, storeVar, hc1, OK.size t n h4 w, cellsL_length, hn, hst]
  case alloc t =>
    obtain ⟨d, h1, hq⟩ := Option.bind_eq_some_iff.1 hr
    clear hr
    have h1' : dst = some d := h1
    subst h1'
    have hg : σ.dom d = false := by
      cases hg : σ.dom d with
      | false => rfl
      | true => rw [hg] at hq; cases hq
    · rw [hg] at hq
      have hr := (cond_false _ _).symm.trans hq
      obtain ⟨l, h2, h3⟩ := Option.map_eq_some_iff.1 hr
      simp only [Prod.mk.injEq] at h3
      obtain ⟨rfl, rfl, rfl⟩ := h3
      obtain ⟨hp, hz⟩ := OK.zero t l h2
      have hl : ∀ x ∈ l, AtOK C σ ρ w x := fun x hx => (hp x hx).ok
      refine fin_new I h rfl hd hg hl ?_ hK
      simp [execOp, Instr.alloc, hz ρ w, newVar, newRow, newObj, Sem.run, cells_denL I hl]
  case box t x =>
    obtain ⟨d, h1, hq⟩ := Option.bind_eq_some_iff.1 hr
    clear hr
    have h1' : dst = some d := h1
    subst h1'
    have hg : σ.dom d = false := by
      cases hg : σ.dom d with
      | false => rfl
      | true => rw [hg] at hq; cases hq
    · rw [hg] at hq
      have hr := (cond_false _ _).symm.trans hq
      obtain ⟨vx, h2, hr⟩ := Option.bind_eq_some_iff.1 hr
      obtain ⟨l, h4, h3⟩ := Option.map_eq_some_iff.1 hr
      simp only [Prod.mk.injEq] at h3
      obtain ⟨rfl, rfl, rfl⟩ := h3
      obtain ⟨e1, k1⟩ := valsOf_spec h h2
      rw [oneS_spec h4] at e1 k1
      have e1' : a.eval x = denL ρ l := e1
      refine fin_new I h rfl hd hg (l := l) k1 ?_ hK
      simp [execOp, Instr.box, e1', newVar, newRow, newObj, Sem.run, cells_denL I (l := l) k1]
  case fieldAddr st x f =>
    obtain ⟨vx, h1, hr⟩ := Option.bind_eq_some_iff.1 hr
    obtain ⟨⟨id, off⟩, h2, hr⟩ := Option.bind_eq_some_iff.1 hr
    obtain ⟨⟨k, t⟩, h3, h4⟩ := Option.map_eq_some_iff.1 hr
    simp only [Prod.mk.injEq] at h4
    obtain ⟨rfl, rfl, rfl⟩ := h4
    obtain ⟨e1, k1⟩ := valsOf_spec h h1
    rw [ptrS_spec h2] at e1 k1
    have e1' : a.eval x = .pointer (some ⟨ρ.b id, off, none⟩) := e1
    refine fin_pure h hd (v := .one [.ptr id (off + k)]) ?_ ?_ hK
    · intro z hz
      simp only [List.mem_singleton] at hz
      subst hz
      exact k1 (.ptr id off) (by simp)
    · simp [execOp, e1', OK.fldA st f k t h3, SV.den, denL, At.val]
  case field st x f =>
    obtain ⟨vx, h1, hr⟩ := Option.bind_eq_some_iff.1 hr
    obtain ⟨l, h2, hr⟩ := Option.bind_eq_some_iff.1 hr
    obtain ⟨⟨k, t⟩, h3, hr⟩ := Option.bind_eq_some_iff.1 hr
    obtain ⟨n, h4, hr⟩ := Option.bind_eq_some_iff.1 hr
    obtain ⟨m, h5, hr⟩ := Option.bind_eq_some_iff.1 hr
    cases hg : (isAggL l && (isAggL m == C.agg t)) with
    | false => simp only [hg, cond_false, reduceCtorEq] at hr
    | true =>
      simp only [hg, cond_true, Option.some.injEq, Prod.mk.injEq] at hr
      obtain ⟨rfl, rfl, rfl⟩ := hr
      simp only [Bool.and_eq_true, beq_iff_eq] at hg
      obtain ⟨hgl, hgm⟩ := hg
      obtain ⟨e1, k1⟩ := valsOf_spec h h1
      rw [oneS_spec h2] at e1 k1
      have e1' : a.eval x = .agg (cellsL ρ l).toArray := by rw [e1]; exact denL_agg ρ hgl
      obtain ⟨p, r, hp, hpl, hs, hmem⟩ := partC_spec ρ h5
      refine fin_pure h hd (v := .one m) (fun x hx => k1 x (hmem x hx)) ?_ hK
      have hlen : (cellsL ρ m).length = n := by rw [cellsL_length, hs]
      have hrun := OK.fld st f k t n h3 h4 (cellsL ρ l).toArray w (by
        simp only [List.size_toArray]
        rw [hp]; simp only [List.length_append, hpl, hlen]; omega)
      have hv : (if C.agg t = true then Value.agg ((cellsL ρ l).toArray.extract k (k + n)) else (cellsL ρ l).toArray.getD k undef) = denL ρ m := by
        rw [← hgm]
        cases hgm' : isAggL m with
        | true =>
          simp only [if_true, denL_agg _ hgm']
          congr 1
          rw [List.extract_toArray, hp, List.extract_eq_take_drop]
          congr 1
          rw [show k + n - k = n by omega, List.drop_append, List.drop_of_length_le (by omega), hpl, Nat.sub_self]
          simp only [List.drop_zero, List.nil_append]
          rw [List.take_append_of_le_length (by omega), List.take_of_length_le (by omega)]
        | false =>
          obtain ⟨y, rfl, e2, e3, _⟩ := denL_one ρ hgm'
          simp only [Bool.false_eq_true, if_false, e2]
          rw [e3] at hp
          rw [hp]
          simp [← hpl]
      rw [hv] at hrun
      simp [execOp, e1', hrun, SV.den]
  case build t parts =>
    obtain ⟨ps, h1, hr⟩ := Option.bind_eq_some_iff.1 hr
    obtain ⟨l, h2, h3⟩ := Option.map_eq_some_iff.1 hr
    simp only [Prod.mk.injEq] at h3
    obtain ⟨rfl, rfl, rfl⟩ := h3
    obtain ⟨e1, k1⟩ := allParts_spec h _ _ h1
    obtain ⟨hm, hrun⟩ := OK.build t ps l h2
    refine fin_pure h hd (v := .one l) ?_ ?_ hK
    · intro x hx
      rcases hm x hx with h0 | ⟨p, hp, m, hpm, hxm⟩
      · exact h0.ok
      · have := k1 p hp
        rw [hpm] at this
        exact this x hxm
    · have hparts : (parts.map fun p => (p.1, a.eval p.2)) = (ps.map fun p => (p.1, p.2.den ρ)).toArray := by
        apply Array.ext'
        simpa using e1
      have hr2 := hrun ρ w
      rw [← hparts] at hr2
      show (do let v ← Instr.build t (parts.map fun (i, x) => (i, a.eval x)); pure (Next.value v)).run P w = _
      rw [Sem.run_bind, hr2]
      rfl
  case convert src dst' x =>
    obtain ⟨vx, h1, hr⟩ := Option.bind_eq_some_iff.1 hr
    obtain ⟨⟨k, n⟩, h2, hr⟩ := Option.bind_eq_some_iff.1 hr
    obtain ⟨k', h3, h4⟩ := Option.map_eq_some_iff.1 hr
    simp only [Prod.mk.injEq] at h4
    obtain ⟨rfl, rfl, rfl⟩ := h4
    obtain ⟨e1, _⟩ := valsOf_spec h h1
    rw [intS_spec h2 ρ] at e1
    refine fin_pure h hd (v := .one [.int k' n]) (by intro z hz; simp only [List.mem_singleton] at hz; subst hz; trivial) ?_ hK
    simp [execOp, e1, OK.conv src dst' k k' h3 n hc.1 hc.2 w, SV.den, denL, At.val]
  case call cl =>
    obtain ⟨callee, args, ats⟩ := cl
    cases callee with
    | value f =>
      obtain ⟨d, h1, hq⟩ := Option.bind_eq_some_iff.1 hr
      clear hr
      have h1' : dst = some d := h1
      subst h1'
      have hg : σ.dom d = false := by
        cases hg : σ.dom d with
        | false => rfl
        | true => rw [hg] at hq; cases hq
      · rw [hg] at hq
        have hr := (cond_false _ _).symm.trans hq
        obtain ⟨vf, h2, hr⟩ := Option.bind_eq_some_iff.1 hr
        split at hr
        · rename_i g
          obtain ⟨vs, h3, hr⟩ := Option.bind_eq_some_iff.1 hr
          obtain ⟨outs, h4, hr⟩ := Option.bind_eq_some_iff.1 hr
          obtain ⟨oc, h5, h6⟩ := Option.map_eq_some_iff.1 hr
          simp only [Prod.mk.injEq] at h6
          obtain ⟨rfl, rfl, rfl⟩ := h6
          obtain ⟨e1, _⟩ := valsOf_spec h h2
          have e1' : a.eval f = .func (.func g) #[] #[] := e1
          obtain ⟨e3, k3⟩ := allVals_spec h _ _ h3
          refine fin_call OK h rfl hd hg k3 h4 h5 hc ?_ hK
          have hargs : args.map a.eval = (vs.map (SV.den ρ)).toArray := by
            apply Array.ext'
            simpa using e3
          show (do let d ← resolve a.eval ⟨.value f, args, ats⟩ type; invoke d.target d.args) = _
          simp only [resolve, e1', hargs]
          simp [Deferred.ofValue, invoke]
        · cases hr
    | builtin b =>
      cases b
      case len =>
        obtain ⟨vs, h1, hr⟩ := Option.bind_eq_some_iff.1 hr
        split at hr
        · rename_i id k t hat
          cases hst : C.sliceT t with
          | false => rw [hst] at hr; cases hr
          | true =>
            rw [hst] at hr
            simp only [cond_true, Option.some.injEq, Prod.mk.injEq] at hr
            obtain ⟨rfl, rfl, rfl⟩ := hr
            obtain ⟨e1, k1⟩ := allVals_spec h _ _ h1
            have hk := k1 _ List.mem_cons_self _ List.mem_cons_self
            obtain ⟨ao, c, hv⟩ := OK.len k _ w hk.2.1
            obtain ⟨el, hu⟩ := OK.sliceT t hst
            have hargs : args.map a.eval = #[.slice ao (C.len k) c] := by
              have : args.toList.map a.eval = [.slice ao (C.len k) c] := by rw [e1]; simp [SV.den, denL, At.val, hv]
              apply Array.ext'
              simpa using this
            have hat' : ats = #[t] := by
              apply Array.ext'
              simpa using hat
            refine fin_pure h hd (v := .one [.int .i64 (C.len k)]) (by intro z hz; simp only [List.mem_singleton] at hz; subst hz; trivial) ?_ hK
            simp [execOp, resolve, invoke, builtin, hargs, hat', Builtin.len_, run_underlying hu, goInt, SV.den, denL, At.val]
        · cases hr
      all_goals cases hr
    | invoke r m => cases hr
  all_goals cases hr

end Go.Proofs.Ytmjdmhelmgcanaa
