/- Joined out of smaller texts: Mp, Mq, Mr, Tac, LiftM, Facts, ConB, Mul, Times, ByA. -/
import Derived.Test.YtmjdmhelmgcanaaQE
import Derived.Test.YtmjdmhelmgcanaaQF
import Derived.Test.YtmjdmhelmgcanaaQB
import Derived.Test.YtmjdmhelmgcanaaRows
import Derived.ProofKit
import Derived.Shelf.Bits.Mul64
/- What calls come to, as the machine knows it: tables of contracts. -/
namespace Go.Proofs.Ytmjdmhelmgcanaa
namespace M
open Go.RowKit

abbrev Con := List RArg → Option (List Outc)
structure Entry where
  f : Nat
  cls : Nat
  con : Con

def findE (f : Nat) : List Entry → Option Entry
  | [] => none
  | e :: r => bif Nat.beq e.f f then some e else findE f r

/-- what a contract names -/
def ConWf (c : Con) : Prop := ∀ args outs, c args = some outs → (∀ A ∈ args, ∀ p ∈ A, (p.1.name = none → p.1.plain) ∧ ∀ k, p.2 = some k → k.rowsOK ∧ k.loose) → ∀ (i : Nat) oc, outs[i]? = some oc → oc.c → ∀ d,
    (∀ d', (oc.e d).newId = some d' → d' = d) ∧ (∀ id, (oc.e d).written = some id → ∃ k, inArgs args id k ∧ k.own = true) ∧ (∀ id k, (oc.e d).bk = some (id, k) → k.own = true ∧ k.named Av.plain ∧ k.rowsOK) ∧
    (oc.r d).all fun a => a.plain ∨ (a.name = some d ∧ (oc.e d).newId = some d ∧ ((oc.e d).bk).isSome = true) ∨ ∃ id k, a.name = some id ∧ inArgs args id k
/-- what a contract says of the call -/
def ConRun (f : Nat) (c : Con) : Prop := ∀ args outs, c args = some outs → ∀ (i : Nat) oc, outs[i]? = some oc → oc.c → ∀ ρ w (B : Nat → Prop) d, (∀ b, w.heap.size ≤ b → B b) → (∀ A ∈ args, ∀ p ∈ A, ArgOK ρ w B p) → (∀ A ∈ args, ∀ p ∈ A, p.1.name ≠ some d) →
    (∀ i j ki kj, inArgs args i ki → inArgs args j kj → ki.own = true → kj.own = true → ρ.b i = ρ.b j → i = j) →
    (callFunc f (args.map (argV ρ)).toArray).run Try.prog w = .ok (.enter f (args.map (argV ρ)).toArray) w ∧
    Calls Try.prog f (args.map (argV ρ)).toArray w fun e w' => ∃ ρ', EffPost ρ ρ' w w' B (oc.e d) ∧ e = .returned ((oc.r d).den ρ')
structure EOK (e : Entry) : Prop where
  wf : ConWf e.con
  run : ConRun e.f e.con
def TabOK (tab : List Entry) : Prop := ∀ e ∈ tab, EOK e

theorem TabOK.nil : TabOK [] := fun p hp => by cases hp
theorem TabOK.cons {e : Entry} {t : List Entry} (h : EOK e) (ht : TabOK t) : TabOK (e :: t) := fun p hp => by
  rcases List.mem_cons.1 hp with rfl | hp
  · exact h
  · exact ht p hp

theorem findE_ok {tab : List Entry} (ht : TabOK tab) {f : Nat} {e : Entry} (h : findE f tab = some e) : EOK e ∧ e.f = f := by
  induction tab with
  | nil => cases h
  | cons x r ih =>
    simp only [findE] at h
    cases hb : Nat.beq x.f f with
    | true =>
      rw [hb] at h
      cases h
      exact ⟨ht _ List.mem_cons_self, Nat.eq_of_beq_eq_true hb⟩
    | false =>
      rw [hb] at h
      exact ih (fun p hp => ht p (List.mem_cons_of_mem _ hp)) h

def ctx (tab : List Entry) (nt : Nat) : Ctx where
  nt := nt
  size := sizeTab
  agg := aggTab
  boolT := fun t => Nat.beq t 4
  zero := zeroTab
  fld := fldTab
  build := buildTab
  eqT := eqTab
  conv := convTab
  arr := arrTab
  slc := slcTab
  con := fun f args => (findE f tab).bind fun e => e.con args
  cls := fun f => match findE f tab with
    | some e => e.cls
    | none => 0

theorem ctx_ok {tab : List Entry} (ht : TabOK tab) (nt : Nat) : CtxOK Try.prog (ctx tab nt) where
  zero := fun t l h => (tab_zero t l h).1
  build := fun t ps l h => (tab_build t ps l h).1
  slc := fun t e es b z h => (tab_slc t e es b z h).1
  con := fun f args outs h => by
    obtain ⟨e, he, h⟩ := Option.bind_eq_some_iff.1 h
    exact (findE_ok ht he).1.wf args outs h
  size := tab_size
  agg := tab_agg
  boolT := fun t h => by
    have : t = 4 := Nat.eq_of_beq_eq_true h
    subst this
    exact Try.underlying4
  zero_run := fun t l h => (tab_zero t l h).2
  fldA := tab_fldA
  fldV := tab_fld
  build_run := fun t ps l h => (tab_build t ps l h).2
  eq := tab_eq
  conv := tab_conv
  arr := tab_arr
  slc_run := fun t e es b z h => (tab_slc t e es b z h).2
  con_run := fun f args outs h => by
    obtain ⟨e, he, h'⟩ := Option.bind_eq_some_iff.1 h
    obtain ⟨h1, h2⟩ := findE_ok ht he
    subst h2
    exact h1.run args outs h'

/-! ## Calls that take and give numbers -/

abbrev PCon := List (List Av) → Option (List (Prop × Sv))
def pcon (k : PCon) : Con := fun args => (k (args.map fun A => A.map (·.1))).map fun l => l.map fun p => ⟨p.1, fun _ => p.2, fun _ => .nop⟩

/-- what is below is as it was: nothing has been done to the names -/
theorem postBelow {ρ : Env} {w w' : World} {B : Nat → Prop} (h : Below w.heap.size w w') : EffPost ρ ρ w w' B .nop :=
  ⟨h.os, h.tape, h.output, h.size, fun _ _ => ⟨rfl, rfl, rfl⟩, fun b hb _ => h.block b hb, (fun _ _ h => by cases h), (fun _ h => by cases h)⟩

theorem pcon_ok {f : Nat} (hcall : ∀ args w, (callFunc f args).run Try.prog w = .ok (.enter f args) w) {k : PCon} {cls : Nat}
    (h : ∀ args l, k args = some l → (∀ A ∈ args, ∀ a ∈ A, a.name = none → a.plain) → ∀ p ∈ l, p.1 → p.2.all Av.plain ∧
      ∀ ρ w, Calls Try.prog f (args.map (denL ρ)).toArray w fun e w' => Below w.heap.size w w' ∧ e = .returned (p.2.den ρ)) : EOK ⟨f, cls, pcon k⟩ := by
  have key : ∀ args outs, pcon k args = some outs → ∀ (i : Nat) oc, outs[i]? = some oc → ∃ l p, k (args.map fun A => A.map (·.1)) = some l ∧ p ∈ l ∧ oc = ⟨p.1, fun _ => p.2, fun _ => .nop⟩ := by
    intro args outs ho i oc hi
    obtain ⟨l, hl, rfl⟩ := Option.map_eq_some_iff.1 ho
    rw [List.getElem?_map] at hi
    obtain ⟨p, hp, rfl⟩ := Option.map_eq_some_iff.1 hi
    exact ⟨l, p, hl, List.mem_of_getElem? hp, rfl⟩
  have pl : ∀ (args : List RArg), (∀ A ∈ args, ∀ p ∈ A, (p.1.name = none → p.1.plain)) → ∀ A ∈ args.map fun A => A.map (·.1), ∀ a ∈ A, a.name = none → a.plain := by
    intro args hargs A hA a ha
    obtain ⟨A', hA', rfl⟩ := List.mem_map.1 hA
    obtain ⟨q, hq, rfl⟩ := List.mem_map.1 ha
    exact hargs A' hA' q hq
  constructor
  · intro args outs ho hargs i oc hi hc d
    obtain ⟨l, p, hl, hp, rfl⟩ := key args outs ho i oc hi
    have h1 := (h _ l hl (pl args fun A hA p hp => (hargs A hA p hp).1) p hp hc).1
    exact ⟨(fun _ h => by cases h), (fun _ h => by cases h), (fun _ _ h => by cases h), Sv.all_mono (fun _ h => .inl h) h1⟩
  · intro args outs ho i oc hi hc ρ w B d hB hargs hd _
    obtain ⟨l, p, hl, hp, rfl⟩ := key args outs ho i oc hi
    have h2 := (h _ l hl (pl args fun A hA p hp => (hargs A hA p hp).1) p hp hc).2 ρ w
    refine ⟨hcall _ _, ?_⟩
    have e : args.map (argV ρ) = (args.map fun A => A.map (·.1)).map (denL ρ) := by
      rw [List.map_map]; rfl
    rw [e]
    refine h2.mono ?_
    rintro e' w' ⟨hb, rfl⟩
    exact ⟨ρ, postBelow hb, rfl⟩

abbrev N (x : Nat) : List Av := [.big 4 x]
abbrev E (n : Int) : List Av := [.lit .i64 n]
abbrev B (b : Bool) : List Av := [.bool b]

def k0 (g : List (Prop × Sv)) : PCon
  | [] => some g
  | _ => none
def k1 (g : Nat → List (Prop × Sv)) : PCon
  | [[.big 4 x]] => some (g x)
  | _ => none
def k2 (g : Nat → Nat → List (Prop × Sv)) : PCon
  | [[.big 4 x], [.big 4 y]] => some (g x y)
  | _ => none
def k3 (g : Nat → Nat → Nat → List (Prop × Sv)) : PCon
  | [[.big 4 x], [.big 4 y], [.big 4 z]] => some (g x y z)
  | _ => none
def k4 (g : Nat → Nat → Nat → Nat → List (Prop × Sv)) : PCon
  | [[.big 4 x], [.big 4 y], [.big 4 z], [.big 4 u]] => some (g x y z u)
  | _ => none

theorem big_lt {args : List (List Av)} (h : ∀ A ∈ args, ∀ a ∈ A, a.name = none → a.plain) {x : Nat} (hx : N x ∈ args) : x < TOP := by
  rw [← pow64_4]
  exact h _ hx (.big 4 x) List.mem_cons_self rfl

/-- what a call owes: each way, if it is taken, has plain values, and the call ends so -/
def Owes (f : Nat) (args : List (List Av)) (l : List (Prop × Sv)) : Prop :=
  ∀ p ∈ l, p.1 → p.2.all Av.plain ∧ ∀ ρ w, Calls Try.prog f (args.map (denL ρ)).toArray w fun e w' => Below w.heap.size w w' ∧ e = .returned (p.2.den ρ)

theorem k0_ok {f : Nat} (hcall : ∀ args w, (callFunc f args).run Try.prog w = .ok (.enter f args) w) {cls : Nat} {g : List (Prop × Sv)} (h : Owes f [] g) : EOK ⟨f, cls, pcon (k0 g)⟩ := by
  refine pcon_ok hcall fun args l hl ha p hp => ?_
  unfold k0 at hl
  split at hl
  · cases hl; exact h p hp
  · cases hl
theorem k1_ok {f : Nat} (hcall : ∀ args w, (callFunc f args).run Try.prog w = .ok (.enter f args) w) {cls : Nat} {g : Nat → List (Prop × Sv)} (h : ∀ x, x < TOP → Owes f [N x] (g x)) : EOK ⟨f, cls, pcon (k1 g)⟩ := by
  refine pcon_ok hcall fun args l hl ha p hp => ?_
  unfold k1 at hl
  split at hl
  · cases hl; exact h _ (big_lt ha (by simp)) p hp
  · cases hl
theorem k2_ok {f : Nat} (hcall : ∀ args w, (callFunc f args).run Try.prog w = .ok (.enter f args) w) {cls : Nat} {g : Nat → Nat → List (Prop × Sv)} (h : ∀ x y, x < TOP → y < TOP → Owes f [N x, N y] (g x y)) : EOK ⟨f, cls, pcon (k2 g)⟩ := by
  refine pcon_ok hcall fun args l hl ha p hp => ?_
  unfold k2 at hl
  split at hl
  · cases hl; exact h _ _ (big_lt ha (by simp)) (big_lt ha (by simp)) p hp
  · cases hl
theorem k3_ok {f : Nat} (hcall : ∀ args w, (callFunc f args).run Try.prog w = .ok (.enter f args) w) {cls : Nat} {g : Nat → Nat → Nat → List (Prop × Sv)} (h : ∀ x y z, x < TOP → y < TOP → z < TOP → Owes f [N x, N y, N z] (g x y z)) : EOK ⟨f, cls, pcon (k3 g)⟩ := by
  refine pcon_ok hcall fun args l hl ha p hp => ?_
  unfold k3 at hl
  split at hl
  · cases hl; exact h _ _ _ (big_lt ha (by simp)) (big_lt ha (by simp)) (big_lt ha (by simp)) p hp
  · cases hl
theorem k4_ok {f : Nat} (hcall : ∀ args w, (callFunc f args).run Try.prog w = .ok (.enter f args) w) {cls : Nat} {g : Nat → Nat → Nat → Nat → List (Prop × Sv)} (h : ∀ x y z u, x < TOP → y < TOP → z < TOP → u < TOP → Owes f [N x, N y, N z, N u] (g x y z u)) : EOK ⟨f, cls, pcon (k4 g)⟩ := by
  refine pcon_ok hcall fun args l hl ha p hp => ?_
  unfold k4 at hl
  split at hl
  · cases hl; exact h _ _ _ _ (big_lt ha (by simp)) (big_lt ha (by simp)) (big_lt ha (by simp)) (big_lt ha (by simp)) p hp
  · cases hl

theorem N_plain {x : Nat} (h : x < TOP) : ∀ a ∈ N x, a.plain := by
  intro a ha
  simp only [List.mem_singleton] at ha
  subst ha
  show x < pow64 4
  rw [pow64_4]
  exact h
theorem plain2 {x : Nat} {l : List Av} (h : x < TOP) (hl : ∀ a ∈ l, a.plain) : (Sv.tup [N x, l]).all Av.plain := by
  intro m hm
  simp only [List.mem_cons, List.not_mem_nil, or_false] at hm
  rcases hm with rfl | rfl
  · exact N_plain h
  · exact hl
theorem E_plain (n : Int) : ∀ a ∈ E n, a.plain := fun a ha => by simp only [List.mem_singleton] at ha; subst ha; trivial
theorem B_plain (b : Bool) : ∀ a ∈ B b, a.plain := fun a ha => by simp only [List.mem_singleton] at ha; subst ha; trivial
theorem int_plain (k : IntKind) (n : Int) : ∀ a ∈ [Av.int k n], a.plain := fun a ha => by simp only [List.mem_singleton] at ha; subst ha; trivial

end M
end Go.Proofs.Ytmjdmhelmgcanaa

/- The machine at work: where code stands, rows of words, contracts out of walks. -/
namespace Go.Proofs.Ytmjdmhelmgcanaa
namespace M
open Go.RowKit

def bodyOf (fn : Func) : Code := fn.body.getD .skip

/-- what is to be done from a block on -/
def kAt (id : Nat) : Code → List Fr → Option (List Fr)
  | .block i x, k => bif Nat.beq i id then some (.code (.block i x) :: k) else kAt id x (.endb i :: k)
  | .seq x y, k => match kAt id x (.code y :: k) with
    | some r => some r
    | none => kAt id y k
  | .cond _ x y, k => match kAt id x k with
    | some r => some r
    | none => kAt id y k
  | _, _ => none
def kOf (id : Nat) (c : Code) : List Fr := (kAt id c []).getD []
/-- a loop's round -/
def roundOf (id : Nat) (c : Code) : Code := match kOf id c with
  | .code (.block _ (.loop x)) :: _ => x
  | _ => .skip
def restOf (id : Nat) (c : Code) : List Fr := (kOf id c).tail

/-- a row of words -/
def rowN (F : Nat → Nat) : Nat → List Av := fun i => [.int .u64 (F i : Nat)]
theorem rowC_rowN (F : Nat → Nat) (n : Nat) : rowC (rowN F) n = row F n := by
  induction n with
  | zero => rfl
  | succ n ih => rw [rowC, ih, row_succ]; rfl
theorem upd_rowN (F : Nat → Nat) (i v : Nat) : upd (rowN F) i [.int .u64 (v : Nat)] = rowN (upd F i v) := by
  funext j
  by_cases h : j = i
  · subst h; simp only [upd_same, rowN]
  · simp only [upd_ne _ _ h, rowN]
theorem rowOK_N (F : Nat → Nat) (n : Nat) : RowOK 1 n (rowN F) := ⟨by omega, fun i _ => ⟨rfl, fun a ha => by simp only [rowN, List.mem_singleton] at ha; subst ha; trivial⟩⟩

/-- one's own row, out of what a call left -/
theorem own_row {w w' : World} {ρ : Env} {B : Nat → Prop} {e : TypeId} {es n d : Nat} {v : Value} {f : Nat → List Av} (hB : ∀ b, w.heap.size ≤ b → B b) (hr : RowOK es n f) (hn : 0 < n) (ho : w'.ownsRow w.heap.size e es v n (rowC f n)) (hb : Below w.heap.size w w') :
    ∃ ρ', EffPost ρ ρ' w w' B (.new d (.row true e es n f)) ∧ v = (Sv.one [.sl d es 0 n]).den ρ' := by
  rcases ho.2 with ⟨_, h0⟩ | ⟨g, cap, cur, rfl, hg, hgg, hc, hm, hs, ht⟩
  · omega
  · refine ⟨ρ.set d g cap, ⟨hb.os, hb.tape, hb.output, hb.size, fun i hi => Env.set_ne fun e => hi (by rw [e]; rfl), fun b hlt _ => hb.block b hlt, fun id' k' h => ?_, fun d' h _ => ?_⟩, sl_val.symm⟩
    · cases h
      exact own_block hr hc hm (hB g hg) hgg hs ht
    · cases h
      exact .inl (by simp [Env.set, upd_same]; exact hg)

abbrev RCon := List (List Av) → Option (TypeId × Nat × Nat × (Nat → List Av))
def rcon (k : RCon) : Con := fun args => (k (args.map fun A => A.map (·.1))).map fun q => [⟨True, fun d => .one [.sl d q.2.1 0 q.2.2.1], fun d => .new d (.row true q.1 q.2.1 q.2.2.1 q.2.2.2)⟩]

/-- a contract of a call that makes a row -/
theorem row_ok {f : Nat} (hcall : ∀ args w, (callFunc f args).run Try.prog w = .ok (.enter f args) w) {cls : Nat} {k : RCon}
    (h : ∀ args e es n g, k args = some (e, es, n, g) → (∀ A ∈ args, ∀ a ∈ A, a.name = none → a.plain) → 0 < n ∧ RowOK es n g ∧
      ∀ ρ w, Calls Try.prog f (args.map (denL ρ)).toArray w fun e' w' => ∃ v, e' = .returned v ∧ w'.ownsRow w.heap.size e es v n (rowC g n) ∧ Below w.heap.size w w') :
    EOK ⟨f, cls, rcon k⟩ := by
  have pl : ∀ (args : List RArg), (∀ A ∈ args, ∀ p ∈ A, (p.1.name = none → p.1.plain)) → ∀ A ∈ args.map fun A => A.map (·.1), ∀ a ∈ A, a.name = none → a.plain := by
    intro args hargs A hA a ha
    obtain ⟨A', hA', rfl⟩ := List.mem_map.1 hA
    obtain ⟨q, hq, rfl⟩ := List.mem_map.1 ha
    exact hargs A' hA' q hq
  constructor
  · intro args outs ho hargs i oc hi hc d
    obtain ⟨⟨e, es, n, g⟩, hk, rfl⟩ := Option.map_eq_some_iff.1 ho
    have hi' := List.mem_of_getElem? hi
    simp only [List.mem_singleton] at hi'
    subst hi'
    obtain ⟨h1, h2, _⟩ := h _ e es n g hk (pl args fun A hA p hp => (hargs A hA p hp).1)
    exact ⟨(fun _ h => by cases h; rfl), (fun _ h => by cases h), (fun _ _ h => by cases h; exact ⟨rfl, trivial, h2⟩), one1 (.inr (.inl ⟨rfl, rfl, rfl⟩))⟩
  · intro args outs ho i oc hi hc ρ w B d hB hargs hd _
    obtain ⟨⟨e, es, n, g⟩, hk, rfl⟩ := Option.map_eq_some_iff.1 ho
    have hi' := List.mem_of_getElem? hi
    simp only [List.mem_singleton] at hi'
    subst hi'
    obtain ⟨h1, h2, h3⟩ := h _ e es n g hk (pl args fun A hA p hp => (hargs A hA p hp).1)
    refine ⟨hcall _ _, ?_⟩
    have e1 : args.map (argV ρ) = (args.map fun A => A.map (·.1)).map (denL ρ) := by
      rw [List.map_map]; rfl
    rw [e1]
    refine (h3 ρ w).mono ?_
    rintro e' w' ⟨v, rfl, ho, hb⟩
    obtain ⟨ρ', hp, hv⟩ := own_row (ρ := ρ) (d := d) hB h2 h1 ho hb
    exact ⟨ρ', hp, by rw [hv]⟩

/-! ## Contracts that were walked -/

theorem add_e : EOK ⟨79, 0, pcon (k2 fun x y => [(x + y < TOP, .tup [N (x + y), E 0]), (TOP ≤ x + y, .tup [N 0, E 2])])⟩ := by
  refine k2_ok (fun a w => Try.call79 a w) fun x y hx hy p hp hc => ?_
  simp only [List.mem_cons, List.not_mem_nil, or_false] at hp
  rcases hp with rfl | rfl
  · refine ⟨plain2 hc (E_plain _), fun ρ w => ?_⟩
    simp only [List.map_cons, List.map_nil, denL_num]
    refine (add_calls x y hx hy w).mono ?_
    rintro e w' ⟨rfl, hb⟩
    exact ⟨hb, by simp only [addV, if_pos hc, Sv.den, List.map_cons, List.map_nil, denL_num]; rfl⟩
  · refine ⟨plain2 top_pos (E_plain _), fun ρ w => ?_⟩
    simp only [List.map_cons, List.map_nil, denL_num]
    refine (add_calls x y hx hy w).mono ?_
    rintro e w' ⟨rfl, hb⟩
    have hn : ¬ x + y < TOP := Nat.not_lt.2 hc
    exact ⟨hb, by simp only [addV, if_neg hn, Sv.den, List.map_cons, List.map_nil, denL_num]; rfl⟩

theorem sub_e : EOK ⟨107, 0, pcon (k2 fun x y => [(y ≤ x, .tup [N (x - y), B false]), (x < y, .tup [N (x + TOP - y), B true])])⟩ := by
  refine k2_ok (fun a w => Try.call107 a w) fun x y hx hy p hp hc => ?_
  simp only [List.mem_cons, List.not_mem_nil, or_false] at hp
  rcases hp with rfl | rfl
  · refine ⟨plain2 (by omega) (B_plain _), fun ρ w => ?_⟩
    simp only [List.map_cons, List.map_nil, denL_num]
    refine (sub_calls x y hx hy w).mono ?_
    rintro e w' ⟨rfl, hb⟩
    exact ⟨hb, by simp only [subV, if_pos hc, Sv.den, List.map_cons, List.map_nil, denL_num]; rfl⟩
  · have hc' : x < y := hc
    refine ⟨plain2 (by omega) (B_plain _), fun ρ w => ?_⟩
    simp only [List.map_cons, List.map_nil, denL_num]
    refine (sub_calls x y hx hy w).mono ?_
    rintro e w' ⟨rfl, hb⟩
    have hn : ¬ y ≤ x := Nat.not_le.2 hc
    exact ⟨hb, by simp only [subV, if_neg hn, Sv.den, List.map_cons, List.map_nil, denL_num]; rfl⟩

/-- comparisons by their sign -/
theorem cmp_e : EOK ⟨71, 0, pcon (k2 fun x y => [(True, .one [.int .i64 (cmpN x y)])])⟩ := by
  refine k2_ok (fun a w => Try.call71 a w) fun x y hx hy p hp hc => ?_
  simp only [List.mem_cons, List.not_mem_nil, or_false] at hp
  subst hp
  refine ⟨int_plain _ _, fun ρ w => ?_⟩
  simp only [List.map_cons, List.map_nil, denL_num]
  refine (cmp_calls x y hx hy w).mono ?_
  rintro e w' ⟨hb, rfl⟩
  exact ⟨hb, rfl⟩
theorem rcmp_e : EOK ⟨54, 0, pcon (k2 fun x y => [(True, .one [.int .i64 (cmpN x y)])])⟩ := by
  refine k2_ok (fun a w => Try.call54 a w) fun x y hx hy p hp hc => ?_
  simp only [List.mem_cons, List.not_mem_nil, or_false] at hp
  subst hp
  refine ⟨int_plain _ _, fun ρ w => ?_⟩
  simp only [List.map_cons, List.map_nil, denL_num]
  refine (rcmp_calls x y hx hy w).mono ?_
  rintro e w' ⟨rfl, hb⟩
  exact ⟨hb, rfl⟩
theorem radd_e : EOK ⟨53, 0, pcon (k2 fun x y => [(x + y < TOP, .tup [N (x + y), B true]), (TOP ≤ x + y, .tup [N 0, B false])])⟩ := by
  refine k2_ok (fun a w => Try.call53 a w) fun x y hx hy p hp hc => ?_
  simp only [List.mem_cons, List.not_mem_nil, or_false] at hp
  rcases hp with rfl | rfl
  · refine ⟨plain2 hc (B_plain _), fun ρ w => ?_⟩
    simp only [List.map_cons, List.map_nil, denL_num]
    refine (radd_calls x y hx hy w).mono ?_
    rintro e w' ⟨rfl, hb⟩
    have hc' : x + y < TOP := hc
    exact ⟨hb, by simp only [if_pos hc', Sv.den, List.map_cons, List.map_nil, denL_num]; rfl⟩
  · refine ⟨plain2 top_pos (B_plain _), fun ρ w => ?_⟩
    simp only [List.map_cons, List.map_nil, denL_num]
    refine (radd_calls x y hx hy w).mono ?_
    rintro e w' ⟨rfl, hb⟩
    have hn : ¬ x + y < TOP := Nat.not_lt.2 hc
    exact ⟨hb, by simp only [if_neg hn, Sv.den, List.map_cons, List.map_nil, denL_num]; rfl⟩
theorem rrest_e : EOK ⟨55, 0, pcon (k2 fun x y => [(True, .one (N (x - y)))])⟩ := by
  refine k2_ok (fun a w => Try.call55 a w) fun x y hx hy p hp hc => ?_
  simp only [List.mem_cons, List.not_mem_nil, or_false] at hp
  subst hp
  refine ⟨N_plain (by omega), fun ρ w => ?_⟩
  simp only [List.map_cons, List.map_nil, denL_num]
  rcases Nat.lt_or_ge y x with h | h
  · refine (rrest_high x y hx hy h w).mono ?_
    rintro e w' ⟨rfl, hb⟩
    exact ⟨hb, by rw [den_num]⟩
  · refine (rrest_low x y hx hy h w).mono ?_
    rintro e w' ⟨rfl, hb⟩
    exact ⟨hb, by rw [den_num, show x - y = 0 by omega]⟩
theorem zero_e : EOK ⟨88, 0, pcon (k1 fun x => [(x = 0, .one (B true)), (0 < x, .one (B false))])⟩ := by
  refine k1_ok (fun a w => Try.call88 a w) fun x hx p hp hc => ?_
  simp only [List.mem_cons, List.not_mem_nil, or_false] at hp
  rcases hp with rfl | rfl
  all_goals
    refine ⟨B_plain _, fun ρ w => ?_⟩
    simp only [List.map_cons, List.map_nil, denL_num]
    refine (zero_calls x hx w).mono ?_
    rintro e w' ⟨rfl, hb⟩
    refine ⟨hb, ?_⟩
  · have hc' : x = 0 := hc
    simp [hc', Sv.den, denL, Av.val]
  · have hc' : 0 < x := hc
    have : ¬ x = 0 := by omega
    simp [this, Sv.den, denL, Av.val]

def digK : RCon
  | [[.big 4 x]] => some (26, 1, 16, rowN (dg x))
  | _ => none
theorem digits_e : EOK ⟨93, 0, rcon digK⟩ := by
  refine row_ok (fun a w => Try.call93 a w) fun args e es n g hk ha => ?_
  unfold digK at hk
  split at hk
  · rename_i x
    cases hk
    refine ⟨by omega, rowOK_N _ _, fun ρ w => ?_⟩
    simp only [List.map_cons, List.map_nil, denL_num]
    refine (digits_calls x w).mono ?_
    rintro e' w' ⟨v, rfl, ho, hb⟩
    exact ⟨v, rfl, by rw [rowC_rowN]; exact ho, hb⟩
  · cases hk

theorem cmp_lt0 (x y : Nat) : cmpN x y < 0 ↔ x < y := by unfold cmpN; (repeat' split) <;> constructor <;> intro _ <;> omega
theorem cmp_le0 (x y : Nat) : cmpN x y ≤ 0 ↔ x ≤ y := by unfold cmpN; (repeat' split) <;> constructor <;> intro _ <;> omega
theorem cmp_ge0 (x y : Nat) : 0 ≤ cmpN x y ↔ y ≤ x := by unfold cmpN; (repeat' split) <;> constructor <;> intro _ <;> omega
theorem cmp_gt0 (x y : Nat) : 0 < cmpN x y ↔ y < x := by unfold cmpN; (repeat' split) <;> constructor <;> intro _ <;> omega

def eAdd : Entry := ⟨79, 0, pcon (k2 fun x y => [(x + y < TOP, .tup [N (x + y), E 0]), (TOP ≤ x + y, .tup [N 0, E 2])])⟩
def eSub : Entry := ⟨107, 0, pcon (k2 fun x y => [(y ≤ x, .tup [N (x - y), B false]), (x < y, .tup [N (x + TOP - y), B true])])⟩
def eCmp : Entry := ⟨71, 0, pcon (k2 fun x y => [(True, .one [.int .i64 (cmpN x y)])])⟩
def eRCmp : Entry := ⟨54, 0, pcon (k2 fun x y => [(True, .one [.int .i64 (cmpN x y)])])⟩
def eRAdd : Entry := ⟨53, 0, pcon (k2 fun x y => [(x + y < TOP, .tup [N (x + y), B true]), (TOP ≤ x + y, .tup [N 0, B false])])⟩
def eRRest : Entry := ⟨55, 0, pcon (k2 fun x y => [(True, .one (N (x - y)))])⟩
def eZero : Entry := ⟨88, 0, pcon (k1 fun x => [(x = 0, .one (B true)), (0 < x, .one (B false))])⟩
def eDigits : Entry := ⟨93, 0, rcon digK⟩

def tabA : List Entry := [eAdd, eSub, eCmp, eRCmp, eRAdd, eRRest, eZero, eDigits]
theorem tabA_ok : TabOK tabA := .cons add_e (.cons sub_e (.cons cmp_e (.cons rcmp_e (.cons radd_e (.cons rrest_e (.cons zero_e (.cons digits_e .nil)))))))

end M
end Go.Proofs.Ytmjdmhelmgcanaa

/- Contracts out of the machine's runs. -/
namespace Go.Proofs.Ytmjdmhelmgcanaa
namespace M
open Go.RowKit
variable {P : Program} {C : Ctx} {w w' : World} {ρ ρ' : Env} {σ σ' : Ms} {a : Act}

/-- a call that writes nothing of what there is -/
def base (w : World) (ρ : Env) : Base := ⟨w, fun b => w.heap.size ≤ b, ρ, fun _ h => h⟩

theorem kept_below (h : Kept (base w ρ) w') : Below w.heap.size w w' := ⟨h.os, h.tape, h.output, h.size, fun k hk => h.block k hk (Nat.not_le.2 hk)⟩

theorem den_plain {v : Sv} (h : v.all Av.plain) (ρ ρ' : Env) : v.den ρ' = v.den ρ :=
  Sv.den_congr (dom := fun _ => false) (fun _ h => by cases h) (Sv.all_mono (fun _ ha => Av.plain_inD ha _) h)

/-- numbers in, numbers out -/
theorem pure_calls (OK : CtxOK P C) {f : FuncId} {fn : Func} {c : Code} (hf : P.funcs[f]? = some fn) (hb : fn.body = some c) (hnt : C.nt = fn.ntmps) {args : List Sv} (hlen : args.length ≤ fn.ntmps) (hargs : ∀ s ∈ args, s.all Av.plain) {v : Sv} (hv : v.all Av.plain)
    (g : ∀ w0, Goes P fn.ntmps w0 [.code c] .norm (kn (argS 0 args) []) (Fin C fn.results.toList fun v' _ => v' = v)) (ρ : Env) (w : World) :
    Calls P f (args.map (Sv.den ρ)).toArray w fun e w' => Below w.heap.size w w' ∧ e = .returned (v.den ρ) := by
  have hin : InOK (base w ρ) args [] := ⟨fun s hs => Sv.all_mono (fun _ h => AvOK.of_plain h) (hargs s hs), (fun _ _ h => by cases h), (fun _ _ h => by cases h), (fun _ _ _ _ h => by cases h)⟩
  refine (calls_of OK hf hb hnt hlen hin (g (base w ρ))).mono ?_
  rintro e w' ⟨v', σ', ρ', a', rfl, rfl, hr, _⟩
  exact ⟨kept_below hr.below, by rw [den_plain hv ρ ρ']⟩

/-- the same, by lists of parts -/
theorem pure_calls' (OK : CtxOK P C) {f : FuncId} {fn : Func} {c : Code} (hf : P.funcs[f]? = some fn) (hb : fn.body = some c) (hnt : C.nt = fn.ntmps) {args : List (List Av)} (hlen : args.length ≤ fn.ntmps) (hargs : ∀ l ∈ args, ∀ a ∈ l, a.plain) {v : Sv} (hv : v.all Av.plain)
    (g : ∀ w0, Goes P fn.ntmps w0 [.code c] .norm (kn (argS 0 (args.map .one)) []) (Fin C fn.results.toList fun v' _ => v' = v)) (ρ : Env) (w : World) :
    Calls P f (args.map (denL ρ)).toArray w fun e w' => Below w.heap.size w w' ∧ e = .returned (v.den ρ) := by
  have h := pure_calls OK hf hb hnt (args := args.map .one) (by simpa using hlen) (fun s hs => by
    obtain ⟨l, hl, rfl⟩ := List.mem_map.1 hs
    exact hargs l hl) hv g ρ w
  have e : (args.map Sv.one).map (Sv.den ρ) = args.map (denL ρ) := by rw [List.map_map]; rfl
  rw [e] at h
  exact h

/-- a run without loops, to its return -/
theorem goes_fin (OK : CtxOK P C) (hm : P.follows .mixedOrders = true) {nt : Nat} (hnt : C.nt = nt) {w0 : Base} {orc : Nat → Nat} {k : List Fr} {cs : List Prop} {o' : Out} {rs : List ResultVar} {v : Sv}
    (h : seeR C rs [] (runK C orc [] 3000 k .norm σ) = some (cs, [], o', v, [])) (ho : o' = .norm ∨ o' = .ret) (hc : conj cs) : Goes P nt w0 k .norm σ (Fin C rs fun v' _ => v' = v) :=
  goes_ret OK hm hnt (H := []) h ho hc fun _ _ => rfl

theorem N2 {x y : Nat} (hx : x < TOP) (hy : y < TOP) : ∀ l ∈ [N x, N y], ∀ a ∈ l, a.plain := by
  simp only [List.mem_cons, List.not_mem_nil, or_false]
  rintro l (rfl | rfl)
  · exact N_plain hx
  · exact N_plain hy
theorem N3 {x y z : Nat} (hx : x < TOP) (hy : y < TOP) (hz : z < TOP) : ∀ l ∈ [N x, N y, N z], ∀ a ∈ l, a.plain := by
  simp only [List.mem_cons, List.not_mem_nil, or_false]
  rintro l (rfl | rfl | rfl)
  · exact N_plain hx
  · exact N_plain hy
  · exact N_plain hz
theorem N4 {x y z u : Nat} (hx : x < TOP) (hy : y < TOP) (hz : z < TOP) (hu : u < TOP) : ∀ l ∈ [N x, N y, N z, N u], ∀ a ∈ l, a.plain := by
  simp only [List.mem_cons, List.not_mem_nil, or_false]
  rintro l (rfl | rfl | rfl | rfl)
  · exact N_plain hx
  · exact N_plain hy
  · exact N_plain hz
  · exact N_plain hu
theorem N1 {x : Nat} (hx : x < TOP) : ∀ l ∈ [N x], ∀ a ∈ l, a.plain := by
  simp only [List.mem_cons, List.not_mem_nil, or_false]
  rintro l rfl
  exact N_plain hx

end M
end Go.Proofs.Ytmjdmhelmgcanaa

/- Small closers for the machine's contracts. -/
namespace Go.Proofs.Ytmjdmhelmgcanaa
namespace M
open Go.RowKit

theorem argsP_nil {p : Av → Prop} : ∀ l ∈ ([] : List (List Av)), ∀ a ∈ l, p a := fun _ h => by cases h
theorem argsP_cons {p : Av → Prop} {l : List Av} {r : List (List Av)} (h : ∀ a ∈ l, p a) (hr : ∀ m ∈ r, ∀ a ∈ m, p a) : ∀ m ∈ l :: r, ∀ a ∈ m, p a := fun m hm => by
  rcases List.mem_cons.1 hm with rfl | hm
  · exact h
  · exact hr m hm
theorem tupP {p : Av → Prop} {ls : List (List Av)} (h : ∀ m ∈ ls, ∀ a ∈ m, p a) : (Sv.tup ls).all p := h
theorem oneP {p : Av → Prop} {l : List Av} (h : ∀ a ∈ l, p a) : (Sv.one l).all p := h
theorem N_plain2 {x y : Nat} (hx : x < TOP) (hy : y < TOP) : ∀ a ∈ [Av.big 4 x, Av.big 4 y], a.plain := by
  intro a ha
  simp only [List.mem_cons, List.not_mem_nil, or_false] at ha
  rcases ha with rfl | rfl
  · exact N_plain hx _ List.mem_cons_self
  · exact N_plain hy _ List.mem_cons_self
theorem lit_plain (k : IntKind) (n : Int) : ∀ a ∈ [Av.lit k n], a.plain := fun a ha => by simp only [List.mem_singleton] at ha; subst ha; trivial

end M
end Go.Proofs.Ytmjdmhelmgcanaa

/- The lift, for the machine's contracts. -/
namespace Go.Proofs.Ytmjdmhelmgcanaa
open Go.ChangeShapes Go.WideShapes Go.ChangeAt Go.RowKit

set_option maxRecDepth 100000 in
theorem open_u16 {H : Type} {enc : TypeId × Value → H} {W : World} {base : Nat} {spare : Nat → Bool} {held : Bool} {r : Reach} {b0 : Nat} {v : Value} {d : DataW H} {ps : List MemPlace}
    (hval : Value.okWide Try.prog W r b0 64 v) (hd : DataW.Trod enc Try.prog W base spare held 64 v d ps) : ∃ n : Int, (0 ≤ n ∧ n < 65536) ∧ v = .int .u16 n := by
  obtain ⟨n, rfl⟩ := okWide_int Try.underlying64 hval
  obtain ⟨fuel, hf⟩ := hd
  obtain ⟨m, e, -, w⟩ := DataW.trod_int Try.underlying64 hf
  have e' : n = m := by
    have := e
    simp [Value.cells] at this
    exact this
  subst e'
  simp only [Lit.wf, Bool.and_eq_true, decide_eq_true_eq] at w
  have h1 : IntKind.u16.min = 0 := rfl
  have h2 : IntKind.u16.max = 65535 := rfl
  exact ⟨n, by omega, rfl⟩
set_option maxRecDepth 100000 in
theorem open_bool {W : World} {r : Reach} {b0 : Nat} {v : Value} (hval : Value.okWide Try.prog W r b0 4 v) : ∃ b : Bool, v = .bool b := okWide_bool Try.underlying4 hval

theorem M.denL_int (ρ : M.Env) (k : IntKind) (n : Int) : M.denL ρ [.int k n] = .int k n := rfl
theorem M.denL_bool (ρ : M.Env) (b : Bool) : M.denL ρ [.bool b] = .bool b := rfl

end Go.Proofs.Ytmjdmhelmgcanaa

/- Facts of the head of the program, reckoned once for all rows. -/
namespace Go.Proofs.Ytmjdmhelmgcanaa

/-- signs, by their numbers -/
def cs (l : List Nat) : List Char := l.map Char.ofNat

/-- the signs of the head's words -/
def headSigns : List Char := cs [
  104, 97, 114, 110, 101, 115, 115, 32, 48, 99, 98, 100, 53, 48, 98, 53, 53, 56, 55, 51, 100, 101, 97, 100, 54, 102, 49, 49, 52, 98, 102, 54, 57, 101, 49, 56, 52, 52, 55,
  55, 102, 54, 100, 50, 48, 56, 57, 102, 51, 51, 48, 54, 101, 101, 50, 98, 98, 51, 49, 50, 48, 57, 57, 56, 52, 99, 98, 49, 55, 102, 56, 55, 32, 99, 117, 116, 32, 97, 116,
  32, 106, 111, 105, 110, 116, 117, 114, 101, 47, 106, 111, 105, 110, 116, 117, 114, 101, 108, 97, 119, 48, 50, 46, 67, 111, 105, 110, 115, 82, 105, 103, 104, 116, 115, 32,
  106, 111, 105, 110, 116, 117, 114, 101, 47, 106, 111, 105, 110, 116, 117, 114, 101, 108, 97, 119, 48, 50, 46, 67, 111, 105, 110, 115, 65, 109, 111, 117, 110, 116, 115,
  32, 106, 111, 105, 110, 116, 117, 114, 101, 47, 106, 111, 105, 110, 116, 117, 114, 101, 108, 97, 119, 48, 50, 46, 67, 111, 105, 110, 115, 65, 100, 100, 115, 32, 106, 111,
  105, 110, 116, 117, 114, 101, 47, 106, 111, 105, 110, 116, 117, 114, 101, 108, 97, 119, 48, 50, 46, 67, 111, 105, 110, 115, 66, 97, 99, 107, 32, 106, 111, 105, 110, 116,
  117, 114, 101, 47, 106, 111, 105, 110, 116, 117, 114, 101, 108, 97, 119, 48, 55, 46, 72, 111, 108, 100, 84, 114, 97, 99, 107, 115, 32, 106, 111, 105, 110, 116, 117, 114,
  101, 47, 106, 111, 105, 110, 116, 117, 114, 101, 108, 97, 119, 48, 55, 46, 72, 111, 108, 100, 66, 97, 99, 107, 115, 32, 106, 111, 105, 110, 116, 117, 114, 101, 47, 106,
  111, 105, 110, 116, 117, 114, 101, 108, 97, 119, 48, 55, 46, 72, 111, 108, 100, 83, 112, 101, 110, 100, 115, 32, 106, 111, 105, 110, 116, 117, 114, 101, 47, 106, 111,
  105, 110, 116, 117, 114, 101, 108, 97, 119, 48, 55, 46, 72, 111, 108, 100, 65, 108, 108, 32, 106, 111, 105, 110, 116, 117, 114, 101, 47, 106, 111, 105, 110, 116, 117,
  114, 101, 108, 97, 119, 48, 55, 46, 72, 111, 108, 100, 72, 111, 108, 100, 115, 32, 106, 111, 105, 110, 116, 117, 114, 101, 47, 106, 111, 105, 110, 116, 117, 114, 101,
  108, 97, 119, 48, 50, 46, 67, 111, 105, 110, 115, 84, 97, 107, 101, 115, 32, 106, 111, 105, 110, 116, 117, 114, 101, 47, 106, 111, 105, 110, 116, 117, 114, 101, 108, 97,
  119, 48, 50, 46, 67, 111, 105, 110, 115, 80, 97, 114, 116, 115, 32, 106, 111, 105, 110, 116, 117, 114, 101, 47, 106, 111, 105, 110, 116, 117, 114, 101, 108, 97, 119, 48,
  50, 46, 67, 111, 105, 110, 115, 79, 119, 110, 32, 106, 111, 105, 110, 116, 117, 114, 101, 47, 106, 111, 105, 110, 116, 117, 114, 101, 108, 97, 119, 48, 56, 46, 83, 104,
  97, 114, 101, 87, 111, 114, 116, 104, 115, 32, 106, 111, 105, 110, 116, 117, 114, 101, 47, 106, 111, 105, 110, 116, 117, 114, 101, 108, 97, 119, 48, 56, 46, 83, 104, 97,
  114, 101, 70, 101, 119, 101, 115, 116, 115, 32, 106, 111, 105, 110, 116, 117, 114, 101, 47, 106, 111, 105, 110, 116, 117, 114, 101, 108, 97, 119, 48, 56, 46, 83, 104, 97,
  114, 101, 80, 97, 114, 116, 115, 32, 106, 111, 105, 110, 116, 117, 114, 101, 47, 106, 111, 105, 110, 116, 117, 114, 101, 108, 97, 119, 48, 56, 46, 83, 104, 97, 114, 101,
  83, 112, 108, 105, 116, 115, 32, 106, 111, 105, 110, 116, 117, 114, 101, 47, 106, 111, 105, 110, 116, 117, 114, 101, 108, 97, 119, 48, 56, 46, 83, 104, 97, 114, 101, 82,
  101, 115, 116, 32, 106, 111, 105, 110, 116, 117, 114, 101, 47, 106, 111, 105, 110, 116, 117, 114, 101, 108, 97, 119, 48, 56, 46, 83, 104, 97, 114, 101, 78, 101, 119, 115,
  32, 106, 111, 105, 110, 116, 117, 114, 101, 47, 106, 111, 105, 110, 116, 117, 114, 101, 108, 97, 119, 48, 56, 46, 83, 104, 97, 114, 101, 76, 111, 115, 115, 32, 106, 111,
  105, 110, 116, 117, 114, 101, 47, 106, 111, 105, 110, 116, 117, 114, 101, 108, 97, 119, 48, 49, 46, 78, 117, 109, 79, 114, 100, 101, 114, 115, 32, 106, 111, 105, 110,
  116, 117, 114, 101, 47, 106, 111, 105, 110, 116, 117, 114, 101, 108, 97, 119, 48, 49, 46, 78, 117, 109, 80, 114, 111, 100, 117, 99, 116, 115, 32, 106, 111, 105, 110, 116,
  117, 114, 101, 47, 106, 111, 105, 110, 116, 117, 114, 101, 108, 97, 119, 48, 49, 46, 78, 117, 109, 80, 97, 114, 116, 115, 32, 106, 111, 105, 110, 116, 117, 114, 101, 47,
  106, 111, 105, 110, 116, 117, 114, 101, 108, 97, 119, 48, 49, 46, 78, 117, 109, 70, 108, 111, 111, 114, 115, 32, 106, 111, 105, 110, 116, 117, 114, 101, 47, 106, 111,
  105, 110, 116, 117, 114, 101, 108, 97, 119, 48, 49, 46, 78, 117, 109, 87, 104, 111, 108, 101, 32, 106, 111, 105, 110, 116, 117, 114, 101, 47, 106, 111, 105, 110, 116,
  117, 114, 101, 108, 97, 119, 48, 49, 46, 78, 117, 109, 66, 97, 99, 107, 32, 106, 111, 105, 110, 116, 117, 114, 101, 47, 106, 111, 105, 110, 116, 117, 114, 101, 108, 97,
  119, 48, 49, 46, 78, 117, 109, 66, 121, 116, 101, 115, 32, 106, 111, 105, 110, 116, 117, 114, 101, 47, 106, 111, 105, 110, 116, 117, 114, 101, 108, 97, 119, 48, 49, 46,
  78, 117, 109, 82, 101, 97, 100, 115, 32, 106, 111, 105, 110, 116, 117, 114, 101, 47, 106, 111, 105, 110, 116, 117, 114, 101, 108, 97, 119, 48, 49, 46, 78, 117, 109, 83,
  117, 109, 115]

set_option maxRecDepth 100000 in
theorem head_eq : Try.prog.initOrder = String.ofList headSigns := by kernel_rfl
theorem head_signs : Try.prog.initOrder.toList = headSigns := (congrArg String.toList head_eq).trans String.toList_ofList
def rest : List Char := headSigns.drop 77
def cut : List Char := cs [99, 117, 116]
def word1 : List Char := cs [104, 97, 114, 110, 101, 115, 115]
def word2 : List Char := cs [48, 99, 98, 100, 53, 48, 98, 53, 53, 56, 55, 51, 100, 101, 97, 100, 54, 102, 49, 49, 52, 98, 102, 54, 57, 101, 49, 56, 52, 52, 55, 55, 102, 54, 100, 50, 48, 56, 57, 102, 51, 51, 48, 54, 101, 101, 50, 98, 98, 51, 49, 50, 48, 57, 57, 56, 52, 99, 98, 49, 55, 102, 56, 55]
theorem head_split (R : List Char) : wordsSigns (cs [104, 97, 114, 110, 101, 115, 115, 32, 48, 99, 98, 100, 53, 48, 98, 53, 53, 56, 55, 51, 100, 101, 97, 100, 54, 102, 49, 49, 52, 98, 102, 54, 57, 101, 49, 56, 52, 52, 55, 55, 102, 54, 100, 50, 48, 56, 57, 102, 51, 51, 48, 54, 101, 101, 50, 98, 98, 51, 49, 50, 48, 57, 57, 56, 52, 99, 98, 49, 55, 102, 56, 55, 32, 99, 117, 116, 32] ++ R) = word1 :: word2 :: cut :: wordsSigns R := rfl
theorem head_rest : headSigns = cs [104, 97, 114, 110, 101, 115, 115, 32, 48, 99, 98, 100, 53, 48, 98, 53, 53, 56, 55, 51, 100, 101, 97, 100, 54, 102, 49, 49, 52, 98, 102, 54, 57, 101, 49, 56, 52, 52, 55, 55, 102, 54, 100, 50, 48, 56, 57, 102, 51, 51, 48, 54, 101, 101, 50, 98, 98, 51, 49, 50, 48, 57, 57, 56, 52, 99, 98, 49, 55, 102, 56, 55, 32, 99, 117, 116, 32] ++ rest := rfl
theorem head_one : (word1 == "harness".toList || word1 == "ownmain".toList) = true := by decide +kernel
theorem head_sum : isSumSigns word2 = true := by decide +kernel
theorem behind {h s : List Char} {r : List (List Char)} (h1 : (h == "harness".toList || h == "ownmain".toList) = true) (h2 : isSumSigns s = true) : behindMainWord (h :: s :: r) = r := by
  simp only [behindMainWord, h1, h2, Bool.and_self, if_true]
theorem head_words : behindMainWord (wordsSigns Try.prog.initOrder.toList) = cut :: wordsSigns rest := by
  rw [head_signs, head_rest, head_split, behind head_one head_sum]
theorem make_of (P : Program) {r : List (List Char)} (h : behindMainWord (wordsSigns P.initOrder.toList) = cut :: r) : P.make = some .cut := by
  have h1 : (cut == "gc".toList || cut == "spec".toList) = false := by decide +kernel
  have h2 : (cut == "cut".toList) = true := by decide +kernel
  unfold Program.make
  rw [h]
  simp only [h1, h2, Bool.true_or, if_true, Bool.false_eq_true, if_false]
theorem head_make : Try.prog.make = some .cut := make_of _ head_words
theorem strip_cut (r : List (List Char)) : stripLifts liftWords (cut :: r) = ([], cut :: r) := by
  simp only [liftWords, stripLifts]
  simp only [show (cut == "finals".toList) = false by decide +kernel, show (cut == "reflectrows".toList) = false by decide +kernel, show (cut == "leanrows".toList) = false by decide +kernel, show (cut == "onebuild".toList) = false by decide +kernel, show (cut == "publicsums".toList) = false by decide +kernel, show (cut == "eqguard".toList) = false by decide +kernel, show (cut == "ownunsafe".toList) = false by decide +kernel, show (cut == "libbeside".toList) = false by decide +kernel, show (cut == "ownbeside".toList) = false by decide +kernel, show (cut == "reflbeside".toList) = false by decide +kernel, show (cut == "aliases".toList) = false by decide +kernel, show (cut == "afterinit".toList) = false by decide +kernel, show (cut == "crcplain".toList) = false by decide +kernel, show (cut == "roadunsafe".toList) = false by decide +kernel, show (cut == "fmthandon".toList) = false by decide +kernel, Bool.false_eq_true, if_false]
theorem head_lifts : Try.prog.headLifts = [] := by
  unfold Program.headLifts
  rw [head_words, strip_cut]
  simp
theorem head_finals : Try.prog.liftsFinal = false := by
  unfold Program.liftsFinal
  rw [head_words, head_lifts]
  have h1 : (some cut == some "carried".toList) = false := by decide +kernel
  simp only [List.head?_cons, h1]
  rfl
theorem later : Try.prog.laysLater = false := by kernel_rfl
theorem reflects : Try.prog.bearsReflect = false := by kernel_rfl
theorem doors : Try.prog.doorFits [] = true := by kernel_rfl
theorem facts_enters (P : Program) {r : List (List Char)} (h : behindMainWord (wordsSigns P.initOrder.toList) = cut :: r) (h1 : P.laysLater = false) (h2 : P.bearsReflect = false) (h3 : P.doorFits [] = true) : P.mayEnter = true := by
  unfold Program.mayEnter
  rw [h]
  simp [strip_cut, h1, h2, h3]
  exact .inr (by decide +kernel)
theorem head_enters : Try.prog.mayEnter = true := facts_enters _ head_words later reflects doors
end Go.Proofs.Ytmjdmhelmgcanaa

/- What calls come to: differences, the less of two. -/
namespace Go.Proofs.Ytmjdmhelmgcanaa
open Go.RowKit

def tabR : List (Nat × Con) :=
  (53, pcon (k2 fun x y => [(x + y < TOP, .tup [M (x + y), B true]), (TOP ≤ x + y, .tup [M 0, B false])])) ::
  (54, pcon (k2 fun x y => [(x < y, .one (E (-1))), (x = y, .one (E 0)), (y < x, .one (E 1))])) ::
  (55, pcon (k2 fun x y => [(True, .one (M (x - y)))])) ::
  (88, pcon (k1 fun x => [(x = 0, .one (B true)), (0 < x, .one (B false))])) :: tabA
theorem tabR_ok : TabOK tabR := .cons radd_con (.cons rcmp_con (.cons rrest_con (.cons zero_con tabA_ok)))

theorem Sub_con : ConOK 80 (pcon (k2 fun x y => [(y ≤ x, .tup [M (x - y), E 0]), (x < y, .tup [M 0, E 3])])) := by
  refine k2_ok (fun a w => Try.call80 a w) (by simp [SV.all, noName]) fun x y hx hy p hp => ?_
  simp only [List.mem_cons, List.not_mem_nil, or_false] at hp
  rcases hp with rfl | rfl
  · refine ⟨by simp [SV.all, noName], fun hc => ⟨by first | exact N_ok (by omega) | exact all_num (by omega) (by simp [SV.all, AtOK0]) | simp [SV.all, AtOK0], fun ρ w => ?_⟩⟩
    exact ev tabR_ok Try.func80 (orc := way []) (cs := [True, True, True, True, True, True, y ≤ x, True, True, True, True, True, True, True, True, True, True]) (by kernel_rfl) (by first | (simp only [conj, and_true]; done) | (simp only [conj, and_true, true_and]; repeat' apply And.intro) <;> first | assumption | omega) (by simp only [List.mem_cons, List.not_mem_nil, or_false]; rintro s (rfl | rfl) <;> first | exact N_ok (by assumption) | simp [SV.all, AtOK0]) (by simp [SV.all, noName]) ρ w
  · refine ⟨by simp [SV.all, noName], fun hc => ⟨by first | exact N_ok (by omega) | exact all_num (by omega) (by simp [SV.all, AtOK0]) | simp [SV.all, AtOK0], fun ρ w => ?_⟩⟩
    exact ev tabR_ok Try.func80 (orc := way [(11, 1)]) (cs := [True, True, True, True, True, True, x < y, True, True, True, True, True, True, True, True, True, True]) (by kernel_rfl) (by first | (simp only [conj, and_true]; done) | (simp only [conj, and_true, true_and]; repeat' apply And.intro) <;> first | assumption | omega) (by simp only [List.mem_cons, List.not_mem_nil, or_false]; rintro s (rfl | rfl) <;> first | exact N_ok (by assumption) | simp [SV.all, AtOK0]) (by simp [SV.all, noName]) ρ w

def t80 : List (Nat × Con) := (80, pcon (k2 fun x y => [(y ≤ x, .tup [M (x - y), E 0]), (x < y, .tup [M 0, E 3])])) :: tabR
theorem t80_ok : TabOK t80 := .cons Sub_con tabR_ok

theorem Rest_con : ConOK 86 (pcon (k2 fun x y => [(True, N (x - y))])) := by
  refine k2_ok (fun a w => Try.call86 a w) (by simp [SV.all, noName]) fun x y hx hy p hp => ?_
  simp only [List.mem_cons, List.not_mem_nil, or_false] at hp
  subst hp
  · refine ⟨by simp [SV.all, noName], fun hc => ⟨by first | exact N_ok (by omega) | exact all_num (by omega) (by simp [SV.all, AtOK0]) | simp [SV.all, AtOK0], fun ρ w => ?_⟩⟩
    rcases Nat.lt_or_ge x y with h | h
    · rw [show x - y = 0 by omega]
      exact ev t80_ok Try.func86 (orc := way [(10, 1)]) (cs := [True, True, True, True, True, x < y, True, True, True, True, True, True, True, True]) (by kernel_rfl) (by first | (simp only [conj, and_true]; done) | (simp only [conj, and_true, true_and]; repeat' apply And.intro) <;> first | assumption | omega) (by simp only [List.mem_cons, List.not_mem_nil, or_false]; rintro s (rfl | rfl) <;> first | exact N_ok (by assumption) | simp [SV.all, AtOK0]) (by simp [SV.all, noName]) ρ w
    · exact ev t80_ok Try.func86 (orc := way []) (cs := [True, True, True, True, True, y ≤ x, True, True, True, True, True, True, True, True]) (by kernel_rfl) (by first | (simp only [conj, and_true]; done) | (simp only [conj, and_true, true_and]; repeat' apply And.intro) <;> first | assumption | omega) (by simp only [List.mem_cons, List.not_mem_nil, or_false]; rintro s (rfl | rfl) <;> first | exact N_ok (by assumption) | simp [SV.all, AtOK0]) (by simp [SV.all, noName]) ρ w

def t86 : List (Nat × Con) := (86, pcon (k2 fun x y => [(True, N (x - y))])) :: t80
theorem t86_ok : TabOK t86 := .cons Rest_con t80_ok

theorem Least_con : ConOK 87 (pcon (k2 fun x y => [(True, N (min x y))])) := by
  refine k2_ok (fun a w => Try.call87 a w) (by simp [SV.all, noName]) fun x y hx hy p hp => ?_
  simp only [List.mem_cons, List.not_mem_nil, or_false] at hp
  subst hp
  · refine ⟨by simp [SV.all, noName], fun hc => ⟨by first | exact N_ok (by omega) | exact all_num (by omega) (by simp [SV.all, AtOK0]) | simp [SV.all, AtOK0], fun ρ w => ?_⟩⟩
    rcases Nat.lt_trichotomy x y with h | h | h
    · rw [Nat.min_eq_left (by omega)]
      exact ev t86_ok Try.func87 (orc := way []) (cs := [True, True, True, True, True, x < y, True, True, True]) (by kernel_rfl) (by first | (simp only [conj, and_true]; done) | (simp only [conj, and_true, true_and]; repeat' apply And.intro) <;> first | assumption | omega) (by simp only [List.mem_cons, List.not_mem_nil, or_false]; rintro s (rfl | rfl) <;> first | exact N_ok (by assumption) | simp [SV.all, AtOK0]) (by simp [SV.all, noName]) ρ w
    · rw [Nat.min_eq_right (by omega)]
      exact ev t86_ok Try.func87 (orc := way [(7, 1)]) (cs := [True, True, True, True, True, x = y, True, True, True]) (by kernel_rfl) (by first | (simp only [conj, and_true]; done) | (simp only [conj, and_true, true_and]; repeat' apply And.intro) <;> first | assumption | omega) (by simp only [List.mem_cons, List.not_mem_nil, or_false]; rintro s (rfl | rfl) <;> first | exact N_ok (by assumption) | simp [SV.all, AtOK0]) (by simp [SV.all, noName]) ρ w
    · rw [Nat.min_eq_right (by omega)]
      exact ev t86_ok Try.func87 (orc := way [(7, 2)]) (cs := [True, True, True, True, True, y < x, True, True, True]) (by kernel_rfl) (by first | (simp only [conj, and_true]; done) | (simp only [conj, and_true, true_and]; repeat' apply And.intro) <;> first | assumption | omega) (by simp only [List.mem_cons, List.not_mem_nil, or_false]; rintro s (rfl | rfl) <;> first | exact N_ok (by assumption) | simp [SV.all, AtOK0]) (by simp [SV.all, noName]) ρ w

def t87 : List (Nat × Con) := (87, pcon (k2 fun x y => [(True, N (min x y))])) :: t86
theorem t87_ok : TabOK t87 := .cons Least_con t86_ok

theorem RLeast_con : ConOK 56 (pcon (k2 fun x y => [(True, N (min x y))])) := by
  refine k2_ok (fun a w => Try.call56 a w) (by simp [SV.all, noName]) fun x y hx hy p hp => ?_
  simp only [List.mem_cons, List.not_mem_nil, or_false] at hp
  subst hp
  · refine ⟨by simp [SV.all, noName], fun hc => ⟨by first | exact N_ok (by omega) | exact all_num (by omega) (by simp [SV.all, AtOK0]) | simp [SV.all, AtOK0], fun ρ w => ?_⟩⟩
    rcases Nat.lt_trichotomy x y with h | h | h
    · rw [Nat.min_eq_left (by omega)]
      exact ev t87_ok Try.func56 (orc := way []) (cs := [True, True, True, True, True, x < y, True, True, True]) (by kernel_rfl) (by first | (simp only [conj, and_true]; done) | (simp only [conj, and_true, true_and]; repeat' apply And.intro) <;> first | assumption | omega) (by simp only [List.mem_cons, List.not_mem_nil, or_false]; rintro s (rfl | rfl) <;> first | exact N_ok (by assumption) | simp [SV.all, AtOK0]) (by simp [SV.all, noName]) ρ w
    · rw [Nat.min_eq_left (by omega)]
      exact ev t87_ok Try.func56 (orc := way [(7, 1)]) (cs := [True, True, True, True, True, x = y, True, True, True]) (by kernel_rfl) (by first | (simp only [conj, and_true]; done) | (simp only [conj, and_true, true_and]; repeat' apply And.intro) <;> first | assumption | omega) (by simp only [List.mem_cons, List.not_mem_nil, or_false]; rintro s (rfl | rfl) <;> first | exact N_ok (by assumption) | simp [SV.all, AtOK0]) (by simp [SV.all, noName]) ρ w
    · rw [Nat.min_eq_right (by omega)]
      exact ev t87_ok Try.func56 (orc := way [(7, 2)]) (cs := [True, True, True, True, True, y < x, True, True, True]) (by kernel_rfl) (by first | (simp only [conj, and_true]; done) | (simp only [conj, and_true, true_and]; repeat' apply And.intro) <;> first | assumption | omega) (by simp only [List.mem_cons, List.not_mem_nil, or_false]; rintro s (rfl | rfl) <;> first | exact N_ok (by assumption) | simp [SV.all, AtOK0]) (by simp [SV.all, noName]) ρ w

def t56 : List (Nat × Con) := (56, pcon (k2 fun x y => [(True, N (min x y))])) :: t87
theorem t56_ok : TabOK t56 := .cons RLeast_con t87_ok

end Go.Proofs.Ytmjdmhelmgcanaa

/- The product of two words. -/
namespace Go.Proofs.Ytmjdmhelmgcanaa
open Go.RowKit Go.Shelf

def renMul : Ren := { f := fun _ => 114, t := fun n => if n = 46 then 122 else 26, g := fun n => n }
theorem laysMul : Lays.n264 Try.prog renMul where
  mixed := by kernel_rfl
  f264 := by kernel_rfl
  t46 := Try.underlying122
  a46 := Try.isAgg122
  z46 := Try.sizeOf122
  v46 := Try.zeroValue122
  t53 := Try.underlying26
  a53 := Try.isAgg26
  z53 := Try.sizeOf26
  v53 := Try.zeroValue26

theorem mul64_calls (x y : Nat) (hx : x < 18446744073709551616) (hy : y < 18446744073709551616) (w : World) :
    Calls Try.prog 114 #[.int .u64 x, .int .u64 y] w fun e w' => e = .returned (.tuple #[.int .u64 ((x * y / 18446744073709551616 : Nat) : Int), .int .u64 ((x * y % 18446744073709551616 : Nat) : Int)]) ∧ w' = w :=
  Any.bits_Mul64 laysMul x y hx hy w

end Go.Proofs.Ytmjdmhelmgcanaa

/- num.times: the whole product, part by part. -/
namespace Go.Proofs.Ytmjdmhelmgcanaa
open Go.RowKit

/-- the number that parts of 64 bits are -/
def lim (f : Nat → Nat) : Nat → Nat
  | 0 => 0
  | k + 1 => lim f k + f k * 18446744073709551616 ^ k

theorem lim_congr {f g : Nat → Nat} {k : Nat} (h : ∀ i, i < k → f i = g i) : lim f k = lim g k := by
  induction k with
  | zero => rfl
  | succ k ih => rw [lim, lim, ih fun i hi => h i (by omega), h k (by omega)]
theorem lim_lt {f : Nat → Nat} {k : Nat} (h : ∀ i, i < k → f i < 18446744073709551616) : lim f k < 18446744073709551616 ^ k := by
  induction k with
  | zero => simp [lim]
  | succ k ih =>
    have h1 := ih fun i hi => h i (by omega)
    have h2 : f k * 18446744073709551616 ^ k ≤ 18446744073709551615 * 18446744073709551616 ^ k := Nat.mul_le_mul_right _ (by have := h k (by omega); omega)
    rw [lim, Nat.pow_succ]; omega
theorem lim_lm (x k : Nat) : lim (lm x) k = x % 18446744073709551616 ^ k := by
  induction k with
  | zero => simp [lim, Nat.mod_one]
  | succ k ih => rw [lim, ih, lm, Nat.pow_succ, Nat.mod_mul, Nat.mul_comm (x / 18446744073709551616 ^ k % 18446744073709551616)]
/-- the parts of the number that parts are -/
theorem lm_lim {f : Nat → Nat} {k i : Nat} (h : ∀ i, i < k → f i < 18446744073709551616) (hi : i < k) : lm (lim f k) i = f i := by
  induction k with
  | zero => omega
  | succ k ih =>
    have hlt := lim_lt (k := k) fun j hj => h j (by omega)
    have hp : 0 < 18446744073709551616 ^ k := Nat.pow_pos (by omega)
    rcases Nat.lt_or_eq_of_le (Nat.le_of_lt_succ hi) with h1 | h1
    · rw [← ih (fun j hj => h j (by omega)) h1, lim]
      unfold lm
      obtain ⟨d, hd⟩ : ∃ d, k = i + 1 + d := ⟨k - (i + 1), by omega⟩
      have e : f k * 18446744073709551616 ^ k = 18446744073709551616 ^ i * (18446744073709551616 * (f k * 18446744073709551616 ^ d)) := by
        rw [hd, Nat.pow_add, Nat.pow_add, Nat.pow_one]; ac_rfl
      rw [e, Nat.add_mul_div_left _ _ (Nat.pow_pos (by omega)), Nat.add_mul_mod_self_left]
    · subst h1
      rw [lim]
      unfold lm
      rw [Nat.add_mul_div_right _ _ hp, Nat.div_eq_of_lt hlt, Nat.zero_add, Nat.mod_eq_of_lt (h i (by omega))]

theorem lim_set (f : Nat → Nat) {k j u : Nat} (hj : j < k) : lim (set1 f j u) k + f j * 18446744073709551616 ^ j = lim f k + u * 18446744073709551616 ^ j := by
  induction k with
  | zero => omega
  | succ k ih =>
    rw [lim, lim]
    rcases Nat.lt_or_eq_of_le (Nat.le_of_lt_succ hj) with h1 | h1
    · rw [set1_ne f (by omega : k ≠ j)]
      have := ih h1
      omega
    · subst h1
      rw [set1_eq, lim_congr (f := set1 f j u) (g := f) fun i hi => set1_ne f (by omega)]
      omega

/-- one product -/
theorem mul64_ex {x y : Nat} (hx : x < 18446744073709551616) (hy : y < 18446744073709551616) :
    ∃ hi lo : Nat, (∀ w, Calls Try.prog 114 #[.int .u64 x, .int .u64 y] w fun e w' => e = .returned (.tuple #[.int .u64 hi, .int .u64 lo]) ∧ w' = w) ∧ lo < 18446744073709551616 ∧ x * y = lo + 18446744073709551616 * hi :=
  ⟨_, _, mul64_calls x y hx hy, Nat.mod_lt _ (by omega), by omega⟩

/-- one step: a product, what is there, what is carried -/
theorem step64 {x y p c : Nat} (hx : x < 18446744073709551616) (hy : y < 18446744073709551616) (hp : p < 18446744073709551616) (hc : c < 18446744073709551616) :
    ∃ hi lo s0 c0 s1 c1 : Nat, (∀ w, Calls Try.prog 114 #[.int .u64 x, .int .u64 y] w fun e w' => e = .returned (.tuple #[.int .u64 hi, .int .u64 lo]) ∧ w' = w) ∧
      (∀ w, (callFunc 106 #[.int .u64 lo, .int .u64 p, .int .u64 0]).run Try.prog w = .ok (.value (.tuple #[.int .u64 s0, .int .u64 c0])) w) ∧
      (∀ w, (callFunc 106 #[.int .u64 s0, .int .u64 c, .int .u64 0]).run Try.prog w = .ok (.value (.tuple #[.int .u64 s1, .int .u64 c1])) w) ∧
      hi + c0 + c1 < 18446744073709551616 ∧ s1 < 18446744073709551616 ∧ x * y + p + c = s1 + 18446744073709551616 * (hi + c0 + c1) := by
  obtain ⟨hi, lo, h1, hlo, e1⟩ := mul64_ex hx hy
  obtain ⟨s0, c0, h2, hs0, hc0, e2⟩ := add64_ex hlo hp (Nat.zero_le 1)
  obtain ⟨s1, c1, h3, hs1, hc1, e3⟩ := add64_ex hs0 hc (Nat.zero_le 1)
  have hxy : x * y ≤ 18446744073709551615 * 18446744073709551615 := Nat.mul_le_mul (by omega) (by omega)
  refine ⟨hi, lo, s0, c0, s1, c1, h1, h2, h3, ?_, hs1, ?_⟩
  · omega
  · omega

end Go.Proofs.Ytmjdmhelmgcanaa

/- The long division, bit by bit: plain arithmetic. -/
namespace Go.Proofs.Ytmjdmhelmgcanaa
open Go.RowKit

theorem div_more {h b c : Nat} (hc : 0 < c) (hb : b < 2) (hle : c ≤ 2 * (h % c) + b) : (2 * h + b) / c = 2 * (h / c) + 1 ∧ (2 * h + b) % c = 2 * (h % c) + b - c := by
  have e := Nat.div_add_mod h c
  have l := Nat.mod_lt h hc
  apply (Nat.div_mod_unique hc).2
  have e2 : c * (2 * (h / c) + 1) = 2 * (c * (h / c)) + c := by rw [Nat.mul_add, Nat.mul_one, Nat.mul_left_comm]
  exact ⟨by rw [e2]; omega, by omega⟩
theorem div_same {h b c : Nat} (hc : 0 < c) (hlt : 2 * (h % c) + b < c) : (2 * h + b) / c = 2 * (h / c) ∧ (2 * h + b) % c = 2 * (h % c) + b := by
  have e := Nat.div_add_mod h c
  apply (Nat.div_mod_unique hc).2
  have e2 : c * (2 * (h / c)) = 2 * (c * (h / c)) := by rw [Nat.mul_left_comm]
  exact ⟨by rw [e2]; omega, hlt⟩

theorem half (Z i : Nat) : Z / 2 ^ i = 2 * (Z / 2 ^ (i + 1)) + Z / 2 ^ i % 2 := by
  rw [Nat.pow_succ, ← Nat.div_div_eq_div_mul]; omega

theorem word_pow (j r : Nat) : 18446744073709551616 ^ j * 2 ^ r = 2 ^ (64 * j + r) := by
  rw [Nat.pow_add, Nat.pow_mul]

/-- a bit, by the word in which it stands -/
theorem bit_word (Z : Nat) {j r : Nat} (hr : r < 64) : lm Z j / 2 ^ r % 2 = Z / 2 ^ (64 * j + r) % 2 := by
  unfold lm
  rw [← word_pow, ← Nat.div_div_eq_div_mul]
  generalize Z / 18446744073709551616 ^ j = a
  have e : (18446744073709551616 : Nat) = 2 ^ r * (2 * 2 ^ (63 - r)) := by
    have h : 2 ^ r * (2 * 2 ^ (63 - r)) = 2 ^ (r + (1 + (63 - r))) := by rw [Nat.pow_add, Nat.pow_add, Nat.pow_one]
    rw [h, show r + (1 + (63 - r)) = 64 by omega]
  rw [e, Nat.mod_mul_right_div_self, Nat.mod_mul_right_mod]

theorem or_bit {x r : Nat} (h : x % 2 ^ (r + 1) = 0) : x ||| 2 ^ r = x + 2 ^ r := by
  obtain ⟨m, hm⟩ := Nat.dvd_of_mod_eq_zero h
  rw [hm]
  exact (Nat.two_pow_add_eq_or_of_lt (Nat.pow_lt_pow_right (by omega) (by omega)) m).symm

/-- the words of a number that has no low bits -/
theorem low_clear {u : Nat → Nat} {n Q j r : Nat} (hj : j < n) (hr : r < 64) (hu : ∀ i, i < n → u i < 18446744073709551616) (h : lim u n = Q * 2 ^ (64 * j + r + 1)) :
    u j % 2 ^ (r + 1) = 0 ∧ u j + 2 ^ r < 18446744073709551616 := by
  have e : u j % 2 ^ (r + 1) = 0 := by
    have e1 := lm_lim hu hj
    rw [← e1, h]
    unfold lm
    have e2 : Q * 2 ^ (64 * j + r + 1) = 18446744073709551616 ^ j * (Q * 2 ^ (r + 1)) := by
      rw [Nat.add_assoc, ← word_pow]; ac_rfl
    rw [e2, Nat.mul_div_cancel_left _ (Nat.pow_pos (by omega))]
    have e3 : (18446744073709551616 : Nat) = 2 ^ (r + 1) * 2 ^ (63 - r) := by
      rw [← Nat.pow_add, show r + 1 + (63 - r) = 64 by omega]
    rw [e3, Nat.mod_mul_right_mod, Nat.mul_mod_left]
  refine ⟨e, ?_⟩
  obtain ⟨m, hm⟩ := Nat.dvd_of_mod_eq_zero e
  have hlt := hu j hj
  have e3 : (18446744073709551616 : Nat) = 2 ^ (r + 1) * 2 ^ (63 - r) := by
    rw [← Nat.pow_add, show r + 1 + (63 - r) = 64 by omega]
  have hm2 : m + 1 ≤ 2 ^ (63 - r) := by
    rw [hm, e3] at hlt
    exact Nat.lt_of_mul_lt_mul_left hlt
  have h4 : 2 ^ (r + 1) * (m + 1) ≤ 2 ^ (r + 1) * 2 ^ (63 - r) := Nat.mul_le_mul_left _ hm2
  rw [← e3, Nat.mul_add, Nat.mul_one, ← hm, Nat.pow_succ] at h4
  have hp : 0 < 2 ^ r := Nat.pow_pos (by omega)
  omega

/-- a round in which there is enough -/
theorem quo_more {Z c k : Nat} {u : Nat → Nat} {n j r : Nat} (hc : 0 < c) (hj : j < n) (hr : r < 64) (hk : k = 64 * j + r) (hu : ∀ i, i < n → u i < 18446744073709551616)
    (h : lim u n = Z / 2 ^ (k + 1) / c * 2 ^ (k + 1)) (hle : c ≤ 2 * (Z / 2 ^ (k + 1) % c) + Z / 2 ^ k % 2) :
    u j ||| 2 ^ r = u j + 2 ^ r ∧ u j + 2 ^ r < 18446744073709551616 ∧ lim (set1 u j (u j + 2 ^ r)) n = Z / 2 ^ k / c * 2 ^ k ∧ Z / 2 ^ k % c = 2 * (Z / 2 ^ (k + 1) % c) + Z / 2 ^ k % 2 - c := by
  have hlow := low_clear (Q := Z / 2 ^ (k + 1) / c) hj hr hu (by rw [h, hk])
  have hd := div_more hc (Nat.mod_lt (Z / 2 ^ k) (by omega)) hle
  rw [← half] at hd
  have L := lim_set u (u := u j + 2 ^ r) hj
  refine ⟨or_bit hlow.1, hlow.2, ?_, hd.2⟩
  rw [hd.1]
  have e : (u j + 2 ^ r) * 18446744073709551616 ^ j = u j * 18446744073709551616 ^ j + 2 ^ k := by
    rw [Nat.add_mul, hk, ← word_pow, Nat.mul_comm (2 ^ r)]
  rw [e, h, Nat.pow_succ] at L
  have e2 : Z / (2 ^ k * 2) / c * (2 ^ k * 2) = 2 * (Z / (2 ^ k * 2) / c) * 2 ^ k := by ac_rfl
  rw [Nat.pow_succ, Nat.add_mul, Nat.one_mul, ← e2]
  omega
theorem quo_same {Z c k : Nat} {L : Nat} (hc : 0 < c)
    (h : L = Z / 2 ^ (k + 1) / c * 2 ^ (k + 1)) (hlt : 2 * (Z / 2 ^ (k + 1) % c) + Z / 2 ^ k % 2 < c) :
    L = Z / 2 ^ k / c * 2 ^ k ∧ Z / 2 ^ k % c = 2 * (Z / 2 ^ (k + 1) % c) + Z / 2 ^ k % 2 := by
  have hd := div_same hc hlt
  rw [← half] at hd
  refine ⟨?_, hd.2⟩
  rw [hd.1, h, Nat.pow_succ]
  ac_rfl

end Go.Proofs.Ytmjdmhelmgcanaa
