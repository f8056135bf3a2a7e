/- An evaluation of straight Go code: one operation. -/
import Derived.Test.YtmjdmhelmgcanaaEvalB
namespace Go.Proofs.Ytmjdmhelmgcanaa
open Go.RowKit
variable {K : Type}

def valsOf (nt : Nat) (slots : Nat → SV K) : Operand → Option (SV K)
  | .tmp t => bif Nat.blt t nt then some (slots t) else none
  | .const (.int k n) => some (.one [.lit k n])
  | .const (.bool b) => some (.one [.bool b])
  | .const (.string s) => some (.one [.str s])
  | .func f => some (.one [.fn f])
  | _ => none

def allVals (nt : Nat) (slots : Nat → SV K) : List Operand → Option (List (SV K))
  | [] => some []
  | x :: r => (valsOf nt slots x).bind fun v => (allVals nt slots r).map fun vs => v :: vs

def allParts (nt : Nat) (slots : Nat → SV K) : List (Nat × Operand) → Option (List (Nat × SV K))
  | [] => some []
  | (i, x) :: r => (valsOf nt slots x).bind fun v => (allParts nt slots r).map fun vs => (i, v) :: vs

def boolS : SV K → Option Bool
  | .one [.bool b] => some b
  | _ => none
def litS : SV K → Option (IntKind × Int)
  | .one [.lit k n] => some (k, n)
  | _ => none
def intS : SV K → Option (IntKind × Int)
  | .one [.lit k n] => some (k, n)
  | .one [.int k n] => some (k, n)
  | _ => none
def ptrS : SV K → Option (Nat × Nat)
  | .one [.ptr id off] => some (id, off)
  | _ => none
def oneS : SV K → Option (List (At K))
  | .one l => some l
  | _ => none

def pickP (p : Prop) : Nat → Prop × Bool
  | 0 => (p, true)
  | _ => (¬ p, false)
theorem pickP_spec {p : Prop} {k : Nat} (h : (pickP p k).1) : p ↔ (pickP p k).2 = true := by
  cases k with
  | zero => exact ⟨fun _ => rfl, fun _ => h⟩
  | succ k => exact ⟨fun hp => absurd hp h, fun e => by cases e⟩

def cmpP (op : BinOp) (a b : Int) : Option Prop :=
  match op with
  | .eql => some (a = b)
  | .neq => some (a ≠ b)
  | .lss => some (a < b)
  | .leq => some (a ≤ b)
  | .gtr => some (b < a)
  | .geq => some (b ≤ a)
  | _ => none
def litB (op : BinOp) (a b : Int) : Option Bool :=
  match op with
  | .eql => some (decide (a = b))
  | .neq => some (decide (a ≠ b))
  | .lss => some (decide (a < b))
  | .leq => some (decide (a ≤ b))
  | .gtr => some (decide (b < a))
  | .geq => some (decide (b ≤ a))
  | _ => none

theorem run_cmp {op : BinOp} {a b : Int} {p : Prop} (h : cmpP op a b = some p) {r : Bool} (hr : p ↔ r = true) (P : Program) (k : IntKind) (t : TypeId) (w : World) :
    (binOp op t (.int k a) (.int k b)).run P w = .ok (.bool r) w := by
  cases op <;> simp only [cmpP, reduceCtorEq, Option.some.injEq] at h <;> subst h <;> cases r <;> simp_all [binOp, Op.intCmp]

theorem run_lit {op : BinOp} {a b : Int} {r : Bool} (h : litB op a b = some r) (P : Program) (k : IntKind) (t : TypeId) (w : World) :
    (binOp op t (.int k a) (.int k b)).run P w = .ok (.bool r) w := by
  cases op <;> simp only [litB, reduceCtorEq, Option.some.injEq] at h <;> subst h <;> simp [binOp, Op.intCmp] <;> by_cases e : a = b <;> simp [e]

def binR (C : Ctx K) (op : BinOp) (t : TypeId) (x y : SV K) (ch : Nat) : Option (Prop × Bool) :=
  match boolS x, boolS y with
  | some a, some b => bif C.boolT t then (match op with | .eql => some (True, a == b) | .neq => some (True, !(a == b)) | _ => none) else none
  | _, _ =>
  match litS x, litS y with
  | some (k, a), some (k', b) => if k = k' then (litB op a b).map fun r => (True, r) else none
  | _, _ =>
  match intS x, intS y with
  | some (k, a), some (k', b) => if k = k' then (cmpP op a b).map fun p => pickP p ch else none
  | _, _ =>
  match oneS x, oneS y with
  | some l, some m => (C.eqT t l m).bind fun p => (match op with
      | .eql => some (pickP p ch)
      | .neq => some ((pickP p ch).1, !(pickP p ch).2)
      | _ => none)
  | _, _ => none

inductive Eff (K : Type) where
  | none
  | new (id : Nat) (l : List (At K)) (t : TypeId)
  | put (id : Nat) (l : List (At K)) (t : TypeId)
  | own (id : Nat)

def Eff.app (e : Eff K) (σ : St K) : St K :=
  match e with
  | .none => σ
  | .new id l t => { σ with heap := newH (some (l, t)) id σ.heap, dom := upd σ.dom id true }
  | .put id l t => { σ with heap := upd σ.heap id (some (l, t)) }
  | .own id => { σ with heap := newH Option.none id σ.heap, dom := upd σ.dom id true }

/-- What an operation comes to: under which condition, its value, what it does to memory. -/
def res (C : Ctx K) (orc : Nat → Nat) (o : Oper) (slots : Nat → SV K) (heap : Nat → Option (List (At K) × TypeId)) (dom : Nat → Bool) : Option (Prop × SV K × Eff K) :=
  match o.op with
  | .move x => (valsOf C.nt slots x).map fun v => (True, v, .none)
  | .assign x => (valsOf C.nt slots x).map fun v => (True, v, .none)
  | .pick c x y => (valsOf C.nt slots c).bind fun vc => (boolS vc).bind fun b => (valsOf C.nt slots (bif b then x else y)).map fun v => (True, v, .none)
  | .extract x i => (valsOf C.nt slots x).bind fun v => (match v with
      | .tup l => (l[i]?).map fun t => (True, .one t, .none)
      | _ => none)
  | .binOp op t x y _ => (valsOf C.nt slots x).bind fun vx => (valsOf C.nt slots y).bind fun vy => (binR C op t vx vy (orc (o.dst.getD 0))).map fun r => (r.1, .one [.bool r.2], .none)
  | .unOp .not _ x => (valsOf C.nt slots x).bind fun v => (boolS v).map fun b => (True, .one [.bool (!b)], .none)
  | .unOp .neg _ x => (valsOf C.nt slots x).bind fun v => (litS v).bind fun (k, n) => bif decide (k = .i64 ∧ -1000 ≤ n ∧ n ≤ 1000) then some (True, .one [.lit k (0 - n)], .none) else none
  | .load t x => (valsOf C.nt slots x).bind fun v => (ptrS v).bind fun (id, off) => (heap id).bind fun (l, _) => (C.size t).bind fun n => (partC l off n).bind fun m =>
      bif isAggL m == C.agg t then some (True, .one m, .none) else none
  | .store t x y => (valsOf C.nt slots x).bind fun v => (ptrS v).bind fun (id, off) => (heap id).bind fun (l, ty) => (valsOf C.nt slots y).bind fun vy => (oneS vy).bind fun new =>
      (C.size t).bind fun n => bif Nat.beq (sizeL new) n then (setC l off new).map fun l' => (True, .tup [], .put id l' ty) else none
  | .alloc t => o.dst.bind fun d => bif dom d then none else (C.zero t).map fun l => (True, .one [.ptr d 0], .new d l t)
  | .box t x => o.dst.bind fun d => bif dom d then none else (valsOf C.nt slots x).bind fun v => (oneS v).map fun l => (True, .one [.ptr d 0], .new d l t)
  | .fieldAddr s x f => (valsOf C.nt slots x).bind fun v => (ptrS v).bind fun (id, off) => (C.fld s f).map fun (k, _) => (True, .one [.ptr id (off + k)], .none)
  | .field s x f => (valsOf C.nt slots x).bind fun v => (oneS v).bind fun l => (C.fld s f).bind fun (k, t) => (C.size t).bind fun n => (partC l k n).bind fun m =>
      bif isAggL l && (isAggL m == C.agg t) then some (True, .one m, .none) else none
  | .build t parts => (allParts C.nt slots parts.toList).bind fun ps => (C.build t ps).map fun l => (True, .one l, .none)
  | .convert src dst x => (valsOf C.nt slots x).bind fun v => (intS v).bind fun (k, n) => (C.conv src dst k).map fun k' => (0 ≤ n ∧ n < 18446744073709551616, .one [.int k' n], .none)
  | .call { callee := .value f, args, .. } => o.dst.bind fun d => bif dom d then none else (valsOf C.nt slots f).bind fun vf => (match vf with
      | .one [.fn g] => (allVals C.nt slots args.toList).bind fun vs => (C.con g vs).bind fun outs => (outs[orc d]?).map fun oc => (oc.c, oc.r d, .own d)
      | _ => none)
  | .call { callee := .builtin .len, args, argTypes } => (allVals C.nt slots args.toList).bind fun vs => (match vs, argTypes.toList with
      | [.one [.obj _ k]], [t] => bif C.sliceT t then some (True, .one [.int .i64 (C.len k)], .none) else none
      | _, _ => none)
  | _ => none

/-- what is known of a value that has no names in it -/
def AtOK0 : At K → Prop
  | .big n x => x < pw n
  | .ptr _ _ => False
  | .obj _ _ => False
  | _ => True

/-- what a call may be handed -/
def ArgOK (C : Ctx K) (ρ : Env) (w : World) : At K → Prop
  | .big n x => x < pw n
  | .obj id k => C.inv k (ρ.v id) w ∧ ∀ b, (ρ.v id).ownBlock = some b → b < w.heap.size
  | _ => True
/-- what a call hands back -/
def RetOK (C : Ctx K) (d : Nat) (w : World) (v : Value) (w' : World) : At K → Prop
  | .big n x => x < pw n
  | .obj id k => id = d ∧ C.inv k v w' ∧ ∀ b, v.ownBlock = some b → w.heap.size ≤ b ∧ b < w'.heap.size
  | .ptr _ _ => False
  | _ => True

structure CtxOK (P : Program) (C : Ctx K) : Prop extends CtxInv C where
  size : ∀ t n, C.size t = some n → ∀ w, (sizeOf t).run P w = .ok n w
  agg : ∀ t n, C.size t = some n → ∀ w, (isAgg t).run P w = .ok (C.agg t) w
  sliceT : ∀ t, C.sliceT t = true → ∃ e, P.underlying t = some (.slice e)
  boolT : ∀ t, C.boolT t = true → P.underlying t = some .bool
  zero : ∀ t l, C.zero t = some l → (∀ a ∈ l, AtOK0 a) ∧ ∀ ρ w, (zeroValue t).run P w = .ok (denL ρ l) w
  fldA : ∀ s f k t, C.fld s f = some (k, t) → ∀ b off w, (Instr.fieldAt s (.pointer (some ⟨b, off, none⟩)) f).run P w = .ok (.pointer (some ⟨b, off + k, none⟩)) w
  fld : ∀ s f k t n, C.fld s f = some (k, t) → C.size t = some n → ∀ cs w, k + n ≤ cs.size →
    (Instr.field s (.agg cs) f).run P w = .ok (if C.agg t then .agg (cs.extract k (k + n)) else cs.getD k undef) w
  build : ∀ t ps l, C.build t ps = some l → (∀ a ∈ l, AtOK0 a ∨ ∃ p ∈ ps, ∃ m, p.2 = .one m ∧ a ∈ m) ∧
    ∀ ρ w, (Instr.build t (ps.map fun p => (p.1, p.2.den ρ)).toArray).run P w = .ok (denL ρ l) w
  eq : ∀ t l m p, C.eqT t l m = some p → isAggL l = true ∧ isAggL m = true ∧ ∀ ρ, (∀ n x, At.big n x ∈ l → x < pw n) → (∀ n x, At.big n x ∈ m → x < pw n) → ∀ b, (p ↔ b = true) → ∀ w x y,
    (do eqGuard .eql t x y (denL ρ l) (denL ρ m); binOp .eql t (denL ρ l) (denL ρ m)).run P w = .ok (.bool b) w ∧
    (do eqGuard .neq t x y (denL ρ l) (denL ρ m); binOp .neq t (denL ρ l) (denL ρ m)).run P w = .ok (.bool (!b)) w
  conv : ∀ s d k k', C.conv s d k = some k' → ∀ n, 0 ≤ n → n < 18446744073709551616 → ∀ w, (convert s d (.int k n)).run P w = .ok (.int k' n) w
  len : ∀ k v w, C.inv k v w → ∃ a c, v = .slice a (C.len k) c
  con : ∀ f args outs, C.con f args = some outs → ∀ (i : Nat) oc, outs[i]? = some oc → oc.c → ∀ ρ w d, (∀ s ∈ args, s.all (ArgOK C ρ w)) → (∀ s ∈ args, s.all fun a => ∀ k, a ≠ .obj d k) →
    (callFunc f (args.map (SV.den ρ)).toArray).run P w = .ok (.enter f (args.map (SV.den ρ)).toArray) w ∧
    Calls P f (args.map (SV.den ρ)).toArray w fun e w' => Below w.heap.size w w' ∧ ∃ v, e = .returned ((oc.r d).den { ρ with v := upd ρ.v d v }) ∧ (oc.r d).all (RetOK C d w v w')

variable {P : Program} {C : Ctx K} {σ σ' : St K} {ρ ρ' : Env} {w0 w w' : World} {a : Act}

theorem valsOf_spec (h : Rep C w0 ρ σ a w) {x : Operand} {v : SV K} (hv : valsOf C.nt σ.slots x = some v) : a.eval x = v.den ρ ∧ v.all (AtOK C σ ρ w) := by
  unfold valsOf at hv
  split at hv
  · rename_i t
    cases hb : Nat.blt t C.nt with
    | false => rw [hb] at hv; cases hv
    | true =>
      rw [hb] at hv
      simp only [cond_true, Option.some.injEq] at hv
      subst hv
      exact ⟨h.slots t (Nat.le_of_ble_eq_true hb), h.okS t⟩
  all_goals first
    | (simp only [Option.some.injEq] at hv; subst hv; exact ⟨rfl, by simp [SV.all, AtOK]⟩)
    | cases hv

theorem allVals_spec (h : Rep C w0 ρ σ a w) : ∀ (xs : List Operand) (vs : List (SV K)), allVals C.nt σ.slots xs = some vs →
    xs.map a.eval = vs.map (SV.den ρ) ∧ ∀ s ∈ vs, s.all (AtOK C σ ρ w)
  | [], vs, hv => by simp only [allVals, Option.some.injEq] at hv; subst hv; exact ⟨rfl, by simp⟩
  | x :: r, vs, hv => by
    simp only [allVals] at hv
    obtain ⟨v, h1, hv⟩ := Option.bind_eq_some_iff.1 hv
    obtain ⟨vs', h2, rfl⟩ := Option.map_eq_some_iff.1 hv
    obtain ⟨e1, k1⟩ := valsOf_spec h h1
    obtain ⟨e2, k2⟩ := allVals_spec h r vs' h2
    refine ⟨by simp [e1, e2], ?_⟩
    intro s hs
    rcases List.mem_cons.1 hs with rfl | hs
    · exact k1
    · exact k2 s hs

theorem allParts_spec (h : Rep C w0 ρ σ a w) : ∀ (xs : List (Nat × Operand)) (vs : List (Nat × SV K)), allParts C.nt σ.slots xs = some vs →
    xs.map (fun p => (p.1, a.eval p.2)) = vs.map (fun p => (p.1, p.2.den ρ)) ∧ ∀ s ∈ vs, s.2.all (AtOK C σ ρ w)
  | [], vs, hv => by simp only [allParts, Option.some.injEq] at hv; subst hv; exact ⟨rfl, by simp⟩
  | (i, x) :: r, vs, hv => by
    simp only [allParts] at hv
    obtain ⟨v, h1, hv⟩ := Option.bind_eq_some_iff.1 hv
    obtain ⟨vs', h2, rfl⟩ := Option.map_eq_some_iff.1 hv
    obtain ⟨e1, k1⟩ := valsOf_spec h h1
    obtain ⟨e2, k2⟩ := allParts_spec h r vs' h2
    refine ⟨by simp [e1, e2], ?_⟩
    intro s hs
    rcases List.mem_cons.1 hs with rfl | hs
    · exact k1
    · exact k2 s hs

theorem boolS_spec {v : SV K} {b : Bool} (h : boolS v = some b) : v = .one [.bool b] := by
  unfold boolS at h; split at h <;> simp_all
theorem litS_spec {v : SV K} {k : IntKind} {n : Int} (h : litS v = some (k, n)) : v = .one [.lit k n] := by
  unfold litS at h; split at h <;> simp_all
theorem intS_spec {v : SV K} {k : IntKind} {n : Int} (h : intS v = some (k, n)) : ∀ ρ, v.den ρ = .int k n := by
  unfold intS at h; split at h <;> simp_all [SV.den, denL, At.val]
theorem ptrS_spec {v : SV K} {id off : Nat} (h : ptrS v = some (id, off)) : v = .one [.ptr id off] := by
  unfold ptrS at h; split at h <;> simp_all
theorem oneS_spec {v : SV K} {l : List (At K)} (h : oneS v = some l) : v = .one l := by
  unfold oneS at h; split at h <;> simp_all

theorem run_binR (OK : CtxOK P C) {op : BinOp} {t : TypeId} {x y : SV K} {ch : Nat} {r : Prop × Bool} (h : binR C op t x y ch = some r) (hr : r.1)
    (hx : x.all (AtOK C σ ρ w)) (hy : y.all (AtOK C σ ρ w)) (ox oy : Operand) :
    (do eqGuard op t ox oy (x.den ρ) (y.den ρ); binOp op t (x.den ρ) (y.den ρ)).run P w = .ok (.bool r.2) w := by
  unfold binR at h
  split at h
  · rename_i p q hp hq
    rw [boolS_spec hp, boolS_spec hq]
    cases hbt : C.boolT t with
    | false => rw [hbt] at h; cases h
    | true =>
    rw [hbt] at h
    simp only [cond_true] at h
    have hb := fun (u v : Bool) => run_equalIn_bool' (P := P) w 9999 t u v (OK.boolT t hbt)
    cases op <;> simp only [reduceCtorEq, Option.some.injEq] at h <;> subst h <;> simp [SV.den, denL, At.val, eqGuard, binOp, Op.equal, Op.maxDepth, hb]
  · split at h
    · rename_i k p k' q hp hq
      split at h
      · rename_i hk
        subst hk
        obtain ⟨s, hs, rfl⟩ := Option.map_eq_some_iff.1 h
        rw [litS_spec hp, litS_spec hq]
        have := run_lit hs P k t w
        simp only [SV.den, denL, At.val]
        simp [eqGuard, this]
      · cases h
    · split at h
      · rename_i k p k' q hp hq
        split at h
        · rename_i hk
          subst hk
          obtain ⟨s, hs, rfl⟩ := Option.map_eq_some_iff.1 h
          rw [intS_spec hp ρ, intS_spec hq ρ]
          have := run_cmp hs (pickP_spec hr) P k t w
          simp [eqGuard, this]
        · cases h
      · split at h
        · rename_i l m hl hm
          rw [oneS_spec hl] at hx ⊢
          rw [oneS_spec hm] at hy ⊢
          obtain ⟨p, hp, h⟩ := Option.bind_eq_some_iff.1 h
          obtain ⟨_, _, H⟩ := OK.eq t l m p hp
          have hbx : ∀ n x, At.big n x ∈ l → x < pw n := fun n x hmem => hx _ hmem
          have hby : ∀ n x, At.big n x ∈ m → x < pw n := fun n x hmem => hy _ hmem
          split at h
          · simp only [Option.some.injEq] at h
            subst h
            exact (H ρ hbx hby _ (pickP_spec hr) w ox oy).1
          · simp only [Option.some.injEq] at h
            subst h
            exact (H ρ hbx hby _ (pickP_spec hr) w ox oy).2
          · cases h
        · cases h

end Go.Proofs.Ytmjdmhelmgcanaa
