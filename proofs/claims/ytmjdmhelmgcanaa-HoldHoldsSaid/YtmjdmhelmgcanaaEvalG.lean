/- An evaluation of straight Go code: a statement, a piece of code, a function. -/
import Derived.Test.YtmjdmhelmgcanaaEvalF
namespace Go.Proofs.Ytmjdmhelmgcanaa
open Go.RowKit
variable {K : Type} {P : Program} {C : Ctx K} {σ σ' : St K} {ρ ρ' : Env} {w0 w w' : World} {a : Act}

theorem Rep.wf (h : Rep C w0 ρ σ a w) : Wf σ :=
  ⟨fun i => SV.all_mono (fun _ hx => hx.inD) (h.okS i), fun id l t hl x hx => (h.okH id l t hl x hx).inD, h.hdom⟩

theorem Rep.drew (h : Rep C w0 ρ σ a w) (I : CtxInv C) : Rep C w0 ρ σ a { w with drawn := w.drawn + 1 } := by
  have hm : ∀ x, AtOK C σ ρ w x → AtOK C σ ρ { w with drawn := w.drawn + 1 } x := by
    intro x hx
    exact hx.mono I (fun _ h => h) (fun _ h => h) (fun _ _ => rfl) (Nat.le_refl _) (fun _ _ _ => rfl) (fun i hi => .inl ⟨hi, rfl⟩)
  exact ⟨h.size, h.defers, h.slots, ⟨h.below.os, h.below.tape, h.below.output, h.below.size, h.below.block⟩, h.cells, h.inj, fun i => SV.all_mono hm (h.okS i), fun id l t hl x hx => hm x (h.okH id l t hl x hx), h.hdom⟩

theorem wanted_of (h : Rep C w0 ρ σ a w) {ops : Array Oper} {o : Oper} {b : Bool} (hw : wantS C.nt ops σ.slots o = some b) : Region.wanted o (yielded ops a.tmps) = b := by
  unfold wantS at hw
  unfold Region.wanted
  cases hg : o.guard with
  | none => rw [hg] at hw; simpa using hw
  | some g =>
    obtain ⟨j, want⟩ := g
    rw [hg] at hw
    simp only [] at hw ⊢
    unfold yielded
    cases ht : (ops[j]?).bind (·.dst) with
    | none => rw [ht] at hw; simp only [Option.some.injEq] at hw; subst hw; rfl
    | some t =>
      rw [ht] at hw
      simp only [] at hw
      cases hb : Nat.blt t C.nt with
      | false => rw [hb] at hw; cases hw
      | true =>
        rw [hb] at hw
        simp only [cond_true] at hw
        have hlt : t < C.nt := Nat.le_of_ble_eq_true hb
        have hs := h.slots t hlt
        have hget : a.tmps[t]? = some (a.eval (.tmp t)) := by
          have hlt' : t < a.tmps.size := by rw [h.size]; exact hlt
          simp [Act.eval, hlt']
        simp only [Option.bind_some, hget, hs]
        split at hw
        · rename_i b' hsl
          simp only [Option.some.injEq] at hw
          subst hw
          rw [hsl]
          simp only [SV.den, denL, At.val]
          cases b' <;> cases want <;> rfl
        · rename_i hsl
          simp only [Option.some.injEq] at hw
          subst hw
          rw [hsl]
          rfl
        · cases hw

theorem raw_sound (OK : CtxOK P C) (h : Rep C w0 ρ σ a w) {orc : Nat → Nat} {ops : Array Oper} {i : Nat} {o : Oper} (hi : ops[i]? = some o) {r : Prop × SV K × Eff K} (hr : raw C orc ops o σ = some r) (hc : r.1)
    {K' : Act → World → Prop} {Q : Exit → Act → World → Prop} (hK : ∀ ρ' a' w', Rep C w0 ρ' (app o r σ) a' w' → K' a' w') : wpOp P ops Q i K' a w := by
  unfold wpOp
  simp only [hi]
  unfold raw at hr
  cases hd : dstB C.nt o.dst with
  | false => rw [hd] at hr; cases hr
  | true =>
    rw [hd] at hr
    simp only [cond_true] at hr
    have hdst : dstIn C.nt o.dst := by
      cases hx : o.dst with
      | none => trivial
      | some d => rw [hx] at hd; exact Nat.le_of_ble_eq_true hd
    split at hr
    · rename_i hw
      rw [wanted_of h hw]
      simp only [if_true]
      obtain ⟨c, v, e⟩ := r
      exact .inl (res_sound OK h hr hc hdst hK)
    · rename_i hw
      rw [wanted_of h hw]
      simp only [Option.some.injEq] at hr
      subst hr
      simp only [Bool.false_eq_true, if_false]
      exact hK ρ _ _ (h.put (v := .tup []) hdst fun m hm => by cases hm)
    · cases hr

/-- the operations of a statement, one behind the other -/
def runL (C : Ctx K) (orc : Nat → Nat) (ops : Array Oper) : List Oper → St K → Option (List Prop × St K)
  | [], σ => some ([], σ)
  | o :: l, σ => (raw C orc ops o σ).bind fun r => (runL C orc ops l (app o r σ)).map fun q => (r.1 :: q.1, q.2)

def conj : List Prop → Prop
  | [] => True
  | p :: l => p ∧ conj l
theorem conj_append : ∀ (l m : List Prop), conj (l ++ m) ↔ conj l ∧ conj m
  | [], m => by simp [conj]
  | p :: l, m => by simp [conj, conj_append l m, and_assoc]

theorem runL_sound (OK : CtxOK P C) {orc : Nat → Nat} {ops : Array Oper} {Q : Exit → Act → World → Prop} : ∀ (l : List Oper) (k : Nat) (σ : St K) (ρ : Env) (a : Act) (w : World), (∀ j, l[j]? = ops[k + j]?) →
    ∀ cs σ', runL C orc ops l σ = some (cs, σ') → conj cs → Rep C w0 ρ σ a w → (∀ ρ' a' w', Rep C w0 ρ' σ' a' w' → Q .normal a' w') →
    wpOps P ops Q ((List.range l.length).map (k + ·)) a w
  | [], k, σ, ρ, a, w, _, cs, σ', hr, _, h, hQ => by
    simp only [runL, Option.some.injEq, Prod.mk.injEq] at hr
    obtain ⟨_, rfl⟩ := hr
    exact hQ _ _ _ h
  | o :: l, k, σ, ρ, a, w, hl, cs, σ', hr, hc, h, hQ => by
    simp only [runL] at hr
    obtain ⟨r, h1, hr⟩ := Option.bind_eq_some_iff.1 hr
    obtain ⟨q, h2, h3⟩ := Option.map_eq_some_iff.1 hr
    simp only [Prod.mk.injEq] at h3
    obtain ⟨rfl, rfl⟩ := h3
    have h0 : ops[k]? = some o := by simpa using (hl 0).symm
    have hlist : (List.range (o :: l).length).map (k + ·) = k :: (List.range l.length).map (k + 1 + ·) := by
      rw [List.length_cons, List.range_succ_eq_map]
      simp only [List.map_cons, Nat.add_zero, List.map_map, List.cons.injEq, true_and]
      congr 1
      funext x
      simp only [Function.comp_apply]
      omega
    rw [hlist, wpOps_cons]
    refine raw_sound OK h h0 h1 hc.1 fun ρ' a' w' h' => ?_
    exact runL_sound OK l (k + 1) _ ρ' a' w' (fun j => by have := hl (j + 1); simpa [Nat.add_assoc, Nat.add_comm 1 j] using this) q.1 q.2 h2 hc.2 h' hQ

theorem region_sound (OK : CtxOK P C) {orc : Nat → Nat} {ops : Array Oper} {id : Nat} {Q : Exit → Act → World → Prop} {cs : List Prop} (hr : runL C orc ops ops.toList σ = some (cs, σ')) (hc : conj cs)
    (h : Rep C w0 ρ σ a w) (hQ : ∀ ρ' a' w', Rep C w0 ρ' σ' a' w' → Q .normal a' w') : (Code.region id ops false).wp P Q a w := by
  refine wp_region ?_
  have := runL_sound OK (Q := Q) ops.toList 0 σ ρ a w (fun j => by simp) cs σ' hr hc h hQ
  simpa using this

/-- every order comes to an end that fits -/
def absAny (C : Ctx K) (orc : Nat → Nat) (md : Region.Mode) (ops : Array Oper) (R : St K → Prop) : Nat → Array Bool → St K → Prop
  | 0, listed, σ => Region.ready md ops listed = [] ∧ R σ
  | f + 1, listed, σ => (Region.ready md ops listed = [] → R σ) ∧
    ∀ i ∈ Region.ready md ops listed, ∃ o r, ops[i]? = some o ∧ raw C orc ops o σ = some r ∧ r.1 ∧ absAny C orc md ops R f (listed.setIfInBounds i true) (app o r σ)

theorem wpAny_of_abs (OK : CtxOK P C) {orc : Nat → Nat} {md : Region.Mode} {ops : Array Oper} {R : St K → Prop} {Q : Exit → Act → World → Prop} (hQ : ∀ σ ρ a w, R σ → Rep C w0 ρ σ a w → Q .normal a w) :
    ∀ (f : Nat) (listed : Array Bool) (σ : St K) (ρ : Env) (a : Act) (w : World), absAny C orc md ops R f listed σ → Rep C w0 ρ σ a w → wpAny P md ops Q f listed a w
  | 0, listed, σ, ρ, a, w, h, hr => ⟨h.1, hQ _ _ _ _ h.2 hr⟩
  | f + 1, listed, σ, ρ, a, w, h, hr => by
    refine ⟨fun h0 => hQ _ _ _ _ (h.1 h0) hr, fun i hi => ?_⟩
    obtain ⟨o, r, ho, hraw, hc, hrest⟩ := h.2 i hi
    exact raw_sound OK hr ho hraw hc fun ρ' a' w' h' => wpAny_of_abs OK hQ f _ _ ρ' a' w' hrest h'

/-- an operation that may come now, and hangs together with none of those that needn't wait for it, may come first -/
theorem absAny_first (D : CtxD C) {orc : Nat → Nat} {md : Region.Mode} {ops : Array Oper} {R : St K → Prop} {i : Nat} {oi : Oper} {r : Prop × SV K × Eff K} (hi : ops[i]? = some oi) :
    ∀ (f : Nat) (listed : Array Bool) (σ : St K), Wf σ →
      (∀ (j : Nat) (oj : Oper), ops[j]? = some oj → j ≠ i → listed.getD j true = false → (∀ e ∈ oj.after, Region.binds md e = true → e.on ≠ i) → indepB ops oi oj = true) →
      i ∈ Region.ready md ops listed → raw C orc ops oi σ = some r → r.1 →
      absAny C orc md ops R f (listed.setIfInBounds i true) (app oi r σ) → absAny C orc md ops R (f + 1) listed σ := by
  intro f
  induction f with
  | zero =>
    intro listed σ hwf _ hr hraw hc H
    refine ⟨fun h => (by rw [h] at hr; cases hr), fun j hj => ?_⟩
    by_cases hji : j = i
    · subst hji; exact ⟨oi, r, hi, hraw, hc, H⟩
    · have := ready_mono hj hji
      rw [H.1] at this
      cases this
  | succ f ih =>
    intro listed σ hwf hfree hr hraw hc H
    refine ⟨fun h => (by rw [h] at hr; cases hr), fun j hj => ?_⟩
    by_cases hji : j = i
    · subst hji; exact ⟨oi, r, hi, hraw, hc, H⟩
    · obtain ⟨oj, q, hoj, hrawj, hcj, hrest⟩ := H.2 j (ready_mono hj hji)
      obtain ⟨hjun, oj', hoj', hall⟩ := mem_ready.1 hj
      have : oj' = oj := Option.some.inj (hoj'.symm.trans hoj)
      subst this
      have hnot : ∀ e ∈ oj'.after, Region.binds md e = true → e.on ≠ i := fun e he hb heq => by
        have h1 := hall e he hb
        have h0 := (mem_ready.1 hr).1
        rw [heq] at h1
        rcases Nat.lt_or_ge i listed.size with h' | h'
        · simp [h'] at h0 h1; rw [h0] at h1; cases h1
        · simp [Array.getElem?_eq_none h'] at h1
      have hind := hfree j oj' hoj hji hjun hnot
      have hq : raw C orc ops oj' σ = some q := by rw [← raw_frame D hwf hind hraw]; exact hrawj
      have hr2 : raw C orc ops oi (app oj' q σ) = some r := by rw [raw_frame D hwf (indep_symm hind) hq]; exact hraw
      have hcomm := app_comm D hwf hind hraw hq
      refine ⟨oj', q, hoj, hq, hcj, ?_⟩
      have hwf' : Wf (app oj' q σ) := by
        obtain ⟨h1, h2⟩ := raw_in D hwf hq
        exact app_wf hwf h1 h2
      refine ih (listed.setIfInBounds j true) _ hwf' ?_ (ready_mono hr (Ne.symm hji)) hr2 hc ?_
      · intro k ok hk hki hun hno
        refine hfree k ok hk hki ?_ hno
        by_cases hjk : j = k
        · subst hjk; exact hjun
        · rw [getD_set_ne true hjk] at hun; exact hun
      · rw [Array.setIfInBounds_comm _ _ hji, ← hcomm]
        exact hrest

/-- the order of the text will do: what the evaluation looks at -/
def freeI (ops : Array Oper) (listed : Array Bool) (i : Nat) : Bool :=
  match ops[i]? with
  | none => false
  | some oi => (List.range ops.size).all fun j => j == i || listed.getD j true || match ops[j]? with
      | some oj => oj.after.any (fun e => Region.binds .any e && e.on == i) || indepB ops oi oj
      | none => true

def lexI (ops : Array Oper) : Nat → Nat → Array Bool → Bool
  | 0, _, listed => (Region.ready .any ops listed).isEmpty
  | f + 1, k, listed => (Region.ready .any ops listed).contains k && freeI ops listed k && lexI ops f (k + 1) (listed.setIfInBounds k true)

theorem freeI_spec {ops : Array Oper} {i : Nat} {oi : Oper} {listed : Array Bool} (hi : ops[i]? = some oi) (h : freeI ops listed i = true) (j : Nat) (oj : Oper)
    (hj : ops[j]? = some oj) (hne : j ≠ i) (hun : listed.getD j true = false) (hno : ∀ e ∈ oj.after, Region.binds .any e = true → e.on ≠ i) : indepB ops oi oj = true := by
  simp only [freeI, hi, List.all_eq_true, List.mem_range] at h
  have h1 := h j (Array.getElem?_eq_some_iff.1 hj).1
  simp only [hj, Bool.or_eq_true, beq_iff_eq, hne, false_or, hun, Bool.false_eq_true] at h1
  rcases h1 with h1 | h1
  · obtain ⟨e, he, hb⟩ := Array.any_eq_true'.1 h1
    simp only [Bool.and_eq_true, beq_iff_eq] at hb
    exact absurd hb.2 (hno e he hb.1)
  · exact h1

theorem abs_of_lex (D : CtxD C) {orc : Nat → Nat} {ops : Array Oper} : ∀ (l : List Oper) (k : Nat) (listed : Array Bool) (σ : St K), Wf σ → (∀ j, l[j]? = ops[k + j]?) → lexI ops l.length k listed = true →
    ∀ cs σ', runL C orc ops l σ = some (cs, σ') → conj cs → absAny C orc .any ops (fun s => s = σ') l.length listed σ
  | [], k, listed, σ, hwf, hl, hB, cs, σ', hr, _ => by
    simp only [runL, Option.some.injEq, Prod.mk.injEq] at hr
    obtain ⟨_, rfl⟩ := hr
    exact ⟨by simpa [lexI] using hB, rfl⟩
  | o :: l, k, listed, σ, hwf, hl, hB, cs, σ', hr, hc => by
    simp only [runL] at hr
    obtain ⟨r, h1, hr⟩ := Option.bind_eq_some_iff.1 hr
    obtain ⟨q, h2, h3⟩ := Option.map_eq_some_iff.1 hr
    simp only [Prod.mk.injEq] at h3
    obtain ⟨rfl, rfl⟩ := h3
    have h0 : ops[k]? = some o := by simpa using (hl 0).symm
    simp only [List.length_cons, lexI, Bool.and_eq_true] at hB
    obtain ⟨⟨hrd, hf⟩, hB'⟩ := hB
    have hwf' : Wf (app o r σ) := by
      obtain ⟨h4, h5⟩ := raw_in D hwf h1
      exact app_wf hwf h4 h5
    exact absAny_first D h0 l.length listed σ hwf (freeI_spec h0 hf) (by simpa using hrd) h1 hc.1
      (abs_of_lex D l (k + 1) _ _ hwf' (fun j => by have := hl (j + 1); simpa [Nat.add_assoc, Nat.add_comm 1 j] using this) hB' q.1 q.2 h2 hc.2)

theorem region_draw_sound (OK : CtxOK P C) (D : CtxD C) (hm : P.follows .mixedOrders = true) {orc : Nat → Nat} {ops : Array Oper} {id : Nat} {Q : Exit → Act → World → Prop} {cs : List Prop}
    (hB : lexI ops ops.size 0 (Array.replicate ops.size false) = true) (hr : runL C orc ops ops.toList σ = some (cs, σ')) (hc : conj cs)
    (h : Rep C w0 ρ σ a w) (hQ : ∀ ρ' a' w', Rep C w0 ρ' σ' a' w' → Q .normal a' w') : (Code.region id ops true).wp P Q a w := by
  refine wp_region_any hm ?_
  have habs := abs_of_lex D ops.toList 0 (Array.replicate ops.size false) σ h.wf (fun j => by simp) (by simpa using hB) cs σ' hr hc
  have := wpAny_of_abs OK (Q := Q) (w0 := w0) (fun s ρ a w hs hrep => by subst hs; exact hQ _ _ _ hrep) _ _ σ ρ a _ habs (h.drew OK.toCtxInv)
  simpa using this

end Go.Proofs.Ytmjdmhelmgcanaa
