/- Joined out of smaller texts: Mp, Mq, Mr, Tac, LiftM, Facts, Drw, Nam. -/
import Derived.Test.YtmjdmhelmgcanaaXE
import Derived.Test.YtmjdmhelmgcanaaXF
import Derived.Test.YtmjdmhelmgcanaaXB
import Derived.Test.YtmjdmhelmgcanaaRows
import Derived.ProofKit
/- What calls come to, as the machine knows it: tables of contracts. -/
namespace Go.Proofs.Ytmjdmhelmgcanaa
namespace M
open Go.RowKit

abbrev Con := List RArg → Option (List Outc)
structure Entry where
  f : Nat
  cls : Nat
  con : Con

def findE (f : Nat) : List Entry → Option Entry
  | [] => none
  | e :: r => bif Nat.beq e.f f then some e else findE f r

/-- what a contract names -/
def ConWf (c : Con) : Prop := ∀ args outs, c args = some outs → (∀ A ∈ args, ∀ p ∈ A, (p.1.name = none → p.1.plain) ∧ ∀ k, p.2 = some k → k.rowsOK ∧ k.loose) → ∀ (i : Nat) oc, outs[i]? = some oc → oc.c → ∀ d,
    (∀ d', (oc.e d).newId = some d' → d' = d) ∧ (∀ id, (oc.e d).written = some id → ∃ k, inArgs args id k ∧ k.own = true) ∧ (∀ id k, (oc.e d).bk = some (id, k) → k.own = true ∧ k.named Av.plain ∧ k.rowsOK) ∧
    (oc.r d).all fun a => a.plain ∨ (a.name = some d ∧ (oc.e d).newId = some d ∧ ((oc.e d).bk).isSome = true) ∨ ∃ id k, a.name = some id ∧ inArgs args id k
/-- what a contract says of the call -/
def ConRun (f : Nat) (c : Con) : Prop := ∀ args outs, c args = some outs → ∀ (i : Nat) oc, outs[i]? = some oc → oc.c → ∀ ρ w (B : Nat → Prop) d, (∀ b, w.heap.size ≤ b → B b) → (∀ A ∈ args, ∀ p ∈ A, ArgOK ρ w B p) → (∀ A ∈ args, ∀ p ∈ A, p.1.name ≠ some d) →
    (∀ i j ki kj, inArgs args i ki → inArgs args j kj → ki.own = true → kj.own = true → ρ.b i = ρ.b j → i = j) →
    (callFunc f (args.map (argV ρ)).toArray).run Try.prog w = .ok (.enter f (args.map (argV ρ)).toArray) w ∧
    Calls Try.prog f (args.map (argV ρ)).toArray w fun e w' => ∃ ρ', EffPost ρ ρ' w w' B (oc.e d) ∧ e = .returned ((oc.r d).den ρ')
structure EOK (e : Entry) : Prop where
  wf : ConWf e.con
  run : ConRun e.f e.con
def TabOK (tab : List Entry) : Prop := ∀ e ∈ tab, EOK e

theorem TabOK.nil : TabOK [] := fun p hp => by cases hp
theorem TabOK.cons {e : Entry} {t : List Entry} (h : EOK e) (ht : TabOK t) : TabOK (e :: t) := fun p hp => by
  rcases List.mem_cons.1 hp with rfl | hp
  · exact h
  · exact ht p hp

theorem findE_ok {tab : List Entry} (ht : TabOK tab) {f : Nat} {e : Entry} (h : findE f tab = some e) : EOK e ∧ e.f = f := by
  induction tab with
  | nil => cases h
  | cons x r ih =>
    simp only [findE] at h
    cases hb : Nat.beq x.f f with
    | true =>
      rw [hb] at h
      cases h
      exact ⟨ht _ List.mem_cons_self, Nat.eq_of_beq_eq_true hb⟩
    | false =>
      rw [hb] at h
      exact ih (fun p hp => ht p (List.mem_cons_of_mem _ hp)) h

def ctx (tab : List Entry) (nt : Nat) : Ctx where
  nt := nt
  size := sizeTab
  agg := aggTab
  boolT := fun t => Nat.beq t 4
  zero := zeroTab
  fld := fldTab
  build := buildTab
  eqT := eqTab
  conv := convTab
  arr := arrTab
  slc := slcTab
  con := fun f args => (findE f tab).bind fun e => e.con args
  cls := fun f => match findE f tab with
    | some e => e.cls
    | none => 0

theorem ctx_ok {tab : List Entry} (ht : TabOK tab) (nt : Nat) : CtxOK Try.prog (ctx tab nt) where
  zero := fun t l h => (tab_zero t l h).1
  build := fun t ps l h => (tab_build t ps l h).1
  slc := fun t e es b z h => (tab_slc t e es b z h).1
  con := fun f args outs h => by
    obtain ⟨e, he, h⟩ := Option.bind_eq_some_iff.1 h
    exact (findE_ok ht he).1.wf args outs h
  size := tab_size
  agg := tab_agg
  boolT := fun t h => by
    have : t = 4 := Nat.eq_of_beq_eq_true h
    subst this
    exact Try.underlying4
  zero_run := fun t l h => (tab_zero t l h).2
  fldA := tab_fldA
  fldV := tab_fld
  build_run := fun t ps l h => (tab_build t ps l h).2
  eq := tab_eq
  conv := tab_conv
  arr := tab_arr
  slc_run := fun t e es b z h => (tab_slc t e es b z h).2
  con_run := fun f args outs h => by
    obtain ⟨e, he, h'⟩ := Option.bind_eq_some_iff.1 h
    obtain ⟨h1, h2⟩ := findE_ok ht he
    subst h2
    exact h1.run args outs h'

/-! ## Calls that take and give numbers -/

abbrev PCon := List (List Av) → Option (List (Prop × Sv))
def pcon (k : PCon) : Con := fun args => (k (args.map fun A => A.map (·.1))).map fun l => l.map fun p => ⟨p.1, fun _ => p.2, fun _ => .nop⟩

/-- what is below is as it was: nothing has been done to the names -/
theorem postBelow {ρ : Env} {w w' : World} {B : Nat → Prop} (h : Below w.heap.size w w') : EffPost ρ ρ w w' B .nop :=
  ⟨h.os, h.tape, h.output, h.size, fun _ _ => ⟨rfl, rfl, rfl⟩, fun b hb _ => h.block b hb, (fun _ _ h => by cases h), (fun _ h => by cases h)⟩

theorem pcon_ok {f : Nat} (hcall : ∀ args w, (callFunc f args).run Try.prog w = .ok (.enter f args) w) {k : PCon} {cls : Nat}
    (h : ∀ args l, k args = some l → (∀ A ∈ args, ∀ a ∈ A, a.name = none → a.plain) → ∀ p ∈ l, p.1 → p.2.all Av.plain ∧
      ∀ ρ w, Calls Try.prog f (args.map (denL ρ)).toArray w fun e w' => Below w.heap.size w w' ∧ e = .returned (p.2.den ρ)) : EOK ⟨f, cls, pcon k⟩ := by
  have key : ∀ args outs, pcon k args = some outs → ∀ (i : Nat) oc, outs[i]? = some oc → ∃ l p, k (args.map fun A => A.map (·.1)) = some l ∧ p ∈ l ∧ oc = ⟨p.1, fun _ => p.2, fun _ => .nop⟩ := by
    intro args outs ho i oc hi
    obtain ⟨l, hl, rfl⟩ := Option.map_eq_some_iff.1 ho
    rw [List.getElem?_map] at hi
    obtain ⟨p, hp, rfl⟩ := Option.map_eq_some_iff.1 hi
    exact ⟨l, p, hl, List.mem_of_getElem? hp, rfl⟩
  have pl : ∀ (args : List RArg), (∀ A ∈ args, ∀ p ∈ A, (p.1.name = none → p.1.plain)) → ∀ A ∈ args.map fun A => A.map (·.1), ∀ a ∈ A, a.name = none → a.plain := by
    intro args hargs A hA a ha
    obtain ⟨A', hA', rfl⟩ := List.mem_map.1 hA
    obtain ⟨q, hq, rfl⟩ := List.mem_map.1 ha
    exact hargs A' hA' q hq
  constructor
  · intro args outs ho hargs i oc hi hc d
    obtain ⟨l, p, hl, hp, rfl⟩ := key args outs ho i oc hi
    have h1 := (h _ l hl (pl args fun A hA p hp => (hargs A hA p hp).1) p hp hc).1
    exact ⟨(fun _ h => by cases h), (fun _ h => by cases h), (fun _ _ h => by cases h), Sv.all_mono (fun _ h => .inl h) h1⟩
  · intro args outs ho i oc hi hc ρ w B d hB hargs hd _
    obtain ⟨l, p, hl, hp, rfl⟩ := key args outs ho i oc hi
    have h2 := (h _ l hl (pl args fun A hA p hp => (hargs A hA p hp).1) p hp hc).2 ρ w
    refine ⟨hcall _ _, ?_⟩
    have e : args.map (argV ρ) = (args.map fun A => A.map (·.1)).map (denL ρ) := by
      rw [List.map_map]; rfl
    rw [e]
    refine h2.mono ?_
    rintro e' w' ⟨hb, rfl⟩
    exact ⟨ρ, postBelow hb, rfl⟩

abbrev N (x : Nat) : List Av := [.big 4 x]
abbrev E (n : Int) : List Av := [.lit .i64 n]
abbrev B (b : Bool) : List Av := [.bool b]

def k0 (g : List (Prop × Sv)) : PCon
  | [] => some g
  | _ => none
def k1 (g : Nat → List (Prop × Sv)) : PCon
  | [[.big 4 x]] => some (g x)
  | _ => none
def k2 (g : Nat → Nat → List (Prop × Sv)) : PCon
  | [[.big 4 x], [.big 4 y]] => some (g x y)
  | _ => none
def k3 (g : Nat → Nat → Nat → List (Prop × Sv)) : PCon
  | [[.big 4 x], [.big 4 y], [.big 4 z]] => some (g x y z)
  | _ => none
def k4 (g : Nat → Nat → Nat → Nat → List (Prop × Sv)) : PCon
  | [[.big 4 x], [.big 4 y], [.big 4 z], [.big 4 u]] => some (g x y z u)
  | _ => none

theorem big_lt {args : List (List Av)} (h : ∀ A ∈ args, ∀ a ∈ A, a.name = none → a.plain) {x : Nat} (hx : N x ∈ args) : x < TOP := by
  rw [← pow64_4]
  exact h _ hx (.big 4 x) List.mem_cons_self rfl

/-- what a call owes: each way, if it is taken, has plain values, and the call ends so -/
def Owes (f : Nat) (args : List (List Av)) (l : List (Prop × Sv)) : Prop :=
  ∀ p ∈ l, p.1 → p.2.all Av.plain ∧ ∀ ρ w, Calls Try.prog f (args.map (denL ρ)).toArray w fun e w' => Below w.heap.size w w' ∧ e = .returned (p.2.den ρ)

theorem k0_ok {f : Nat} (hcall : ∀ args w, (callFunc f args).run Try.prog w = .ok (.enter f args) w) {cls : Nat} {g : List (Prop × Sv)} (h : Owes f [] g) : EOK ⟨f, cls, pcon (k0 g)⟩ := by
  refine pcon_ok hcall fun args l hl ha p hp => ?_
  unfold k0 at hl
  split at hl
  · cases hl; exact h p hp
  · cases hl
theorem k1_ok {f : Nat} (hcall : ∀ args w, (callFunc f args).run Try.prog w = .ok (.enter f args) w) {cls : Nat} {g : Nat → List (Prop × Sv)} (h : ∀ x, x < TOP → Owes f [N x] (g x)) : EOK ⟨f, cls, pcon (k1 g)⟩ := by
  refine pcon_ok hcall fun args l hl ha p hp => ?_
  unfold k1 at hl
  split at hl
  · cases hl; exact h _ (big_lt ha (by simp)) p hp
  · cases hl
theorem k2_ok {f : Nat} (hcall : ∀ args w, (callFunc f args).run Try.prog w = .ok (.enter f args) w) {cls : Nat} {g : Nat → Nat → List (Prop × Sv)} (h : ∀ x y, x < TOP → y < TOP → Owes f [N x, N y] (g x y)) : EOK ⟨f, cls, pcon (k2 g)⟩ := by
  refine pcon_ok hcall fun args l hl ha p hp => ?_
  unfold k2 at hl
  split at hl
  · cases hl; exact h _ _ (big_lt ha (by simp)) (big_lt ha (by simp)) p hp
  · cases hl
theorem k3_ok {f : Nat} (hcall : ∀ args w, (callFunc f args).run Try.prog w = .ok (.enter f args) w) {cls : Nat} {g : Nat → Nat → Nat → List (Prop × Sv)} (h : ∀ x y z, x < TOP → y < TOP → z < TOP → Owes f [N x, N y, N z] (g x y z)) : EOK ⟨f, cls, pcon (k3 g)⟩ := by
  refine pcon_ok hcall fun args l hl ha p hp => ?_
  unfold k3 at hl
  split at hl
  · cases hl; exact h _ _ _ (big_lt ha (by simp)) (big_lt ha (by simp)) (big_lt ha (by simp)) p hp
  · cases hl
theorem k4_ok {f : Nat} (hcall : ∀ args w, (callFunc f args).run Try.prog w = .ok (.enter f args) w) {cls : Nat} {g : Nat → Nat → Nat → Nat → List (Prop × Sv)} (h : ∀ x y z u, x < TOP → y < TOP → z < TOP → u < TOP → Owes f [N x, N y, N z, N u] (g x y z u)) : EOK ⟨f, cls, pcon (k4 g)⟩ := by
  refine pcon_ok hcall fun args l hl ha p hp => ?_
  unfold k4 at hl
  split at hl
  · cases hl; exact h _ _ _ _ (big_lt ha (by simp)) (big_lt ha (by simp)) (big_lt ha (by simp)) (big_lt ha (by simp)) p hp
  · cases hl

theorem N_plain {x : Nat} (h : x < TOP) : ∀ a ∈ N x, a.plain := by
  intro a ha
  simp only [List.mem_singleton] at ha
  subst ha
  show x < pow64 4
  rw [pow64_4]
  exact h
theorem plain2 {x : Nat} {l : List Av} (h : x < TOP) (hl : ∀ a ∈ l, a.plain) : (Sv.tup [N x, l]).all Av.plain := by
  intro m hm
  simp only [List.mem_cons, List.not_mem_nil, or_false] at hm
  rcases hm with rfl | rfl
  · exact N_plain h
  · exact hl
theorem E_plain (n : Int) : ∀ a ∈ E n, a.plain := fun a ha => by simp only [List.mem_singleton] at ha; subst ha; trivial
theorem B_plain (b : Bool) : ∀ a ∈ B b, a.plain := fun a ha => by simp only [List.mem_singleton] at ha; subst ha; trivial
theorem int_plain (k : IntKind) (n : Int) : ∀ a ∈ [Av.int k n], a.plain := fun a ha => by simp only [List.mem_singleton] at ha; subst ha; trivial

end M
end Go.Proofs.Ytmjdmhelmgcanaa

/- The machine at work: where code stands, rows of words, contracts out of walks. -/
namespace Go.Proofs.Ytmjdmhelmgcanaa
namespace M
open Go.RowKit

def bodyOf (fn : Func) : Code := fn.body.getD .skip

/-- what is to be done from a block on -/
def kAt (id : Nat) : Code → List Fr → Option (List Fr)
  | .block i x, k => bif Nat.beq i id then some (.code (.block i x) :: k) else kAt id x (.endb i :: k)
  | .seq x y, k => match kAt id x (.code y :: k) with
    | some r => some r
    | none => kAt id y k
  | .cond _ x y, k => match kAt id x k with
    | some r => some r
    | none => kAt id y k
  | _, _ => none
def kOf (id : Nat) (c : Code) : List Fr := (kAt id c []).getD []
/-- a loop's round -/
def roundOf (id : Nat) (c : Code) : Code := match kOf id c with
  | .code (.block _ (.loop x)) :: _ => x
  | _ => .skip
def restOf (id : Nat) (c : Code) : List Fr := (kOf id c).tail

/-- a row of words -/
def rowN (F : Nat → Nat) : Nat → List Av := fun i => [.int .u64 (F i : Nat)]
theorem rowC_rowN (F : Nat → Nat) (n : Nat) : rowC (rowN F) n = row F n := by
  induction n with
  | zero => rfl
  | succ n ih => rw [rowC, ih, row_succ]; rfl
theorem upd_rowN (F : Nat → Nat) (i v : Nat) : upd (rowN F) i [.int .u64 (v : Nat)] = rowN (upd F i v) := by
  funext j
  by_cases h : j = i
  · subst h; simp only [upd_same, rowN]
  · simp only [upd_ne _ _ h, rowN]
theorem rowOK_N (F : Nat → Nat) (n : Nat) : RowOK 1 n (rowN F) := ⟨by omega, fun i _ => ⟨rfl, fun a ha => by simp only [rowN, List.mem_singleton] at ha; subst ha; trivial⟩⟩

/-- one's own row, out of what a call left -/
theorem own_row {w w' : World} {ρ : Env} {B : Nat → Prop} {e : TypeId} {es n d : Nat} {v : Value} {f : Nat → List Av} (hB : ∀ b, w.heap.size ≤ b → B b) (hr : RowOK es n f) (hn : 0 < n) (ho : w'.ownsRow w.heap.size e es v n (rowC f n)) (hb : Below w.heap.size w w') :
    ∃ ρ', EffPost ρ ρ' w w' B (.new d (.row true e es n f)) ∧ v = (Sv.one [.sl d es 0 n]).den ρ' := by
  rcases ho.2 with ⟨_, h0⟩ | ⟨g, cap, cur, rfl, hg, hgg, hc, hm, hs, ht⟩
  · omega
  · refine ⟨ρ.set d g cap, ⟨hb.os, hb.tape, hb.output, hb.size, fun i hi => Env.set_ne fun e => hi (by rw [e]; rfl), fun b hlt _ => hb.block b hlt, fun id' k' h => ?_, fun d' h _ => ?_⟩, sl_val.symm⟩
    · cases h
      exact own_block hr hc hm (hB g hg) hgg hs ht
    · cases h
      exact .inl (by simp [Env.set, upd_same]; exact hg)

abbrev RCon := List (List Av) → Option (TypeId × Nat × Nat × (Nat → List Av))
def rcon (k : RCon) : Con := fun args => (k (args.map fun A => A.map (·.1))).map fun q => [⟨True, fun d => .one [.sl d q.2.1 0 q.2.2.1], fun d => .new d (.row true q.1 q.2.1 q.2.2.1 q.2.2.2)⟩]

/-- a contract of a call that makes a row -/
theorem row_ok {f : Nat} (hcall : ∀ args w, (callFunc f args).run Try.prog w = .ok (.enter f args) w) {cls : Nat} {k : RCon}
    (h : ∀ args e es n g, k args = some (e, es, n, g) → (∀ A ∈ args, ∀ a ∈ A, a.name = none → a.plain) → 0 < n ∧ RowOK es n g ∧
      ∀ ρ w, Calls Try.prog f (args.map (denL ρ)).toArray w fun e' w' => ∃ v, e' = .returned v ∧ w'.ownsRow w.heap.size e es v n (rowC g n) ∧ Below w.heap.size w w') :
    EOK ⟨f, cls, rcon k⟩ := by
  have pl : ∀ (args : List RArg), (∀ A ∈ args, ∀ p ∈ A, (p.1.name = none → p.1.plain)) → ∀ A ∈ args.map fun A => A.map (·.1), ∀ a ∈ A, a.name = none → a.plain := by
    intro args hargs A hA a ha
    obtain ⟨A', hA', rfl⟩ := List.mem_map.1 hA
    obtain ⟨q, hq, rfl⟩ := List.mem_map.1 ha
    exact hargs A' hA' q hq
  constructor
  · intro args outs ho hargs i oc hi hc d
    obtain ⟨⟨e, es, n, g⟩, hk, rfl⟩ := Option.map_eq_some_iff.1 ho
    have hi' := List.mem_of_getElem? hi
    simp only [List.mem_singleton] at hi'
    subst hi'
    obtain ⟨h1, h2, _⟩ := h _ e es n g hk (pl args fun A hA p hp => (hargs A hA p hp).1)
    exact ⟨(fun _ h => by cases h; rfl), (fun _ h => by cases h), (fun _ _ h => by cases h; exact ⟨rfl, trivial, h2⟩), one1 (.inr (.inl ⟨rfl, rfl, rfl⟩))⟩
  · intro args outs ho i oc hi hc ρ w B d hB hargs hd _
    obtain ⟨⟨e, es, n, g⟩, hk, rfl⟩ := Option.map_eq_some_iff.1 ho
    have hi' := List.mem_of_getElem? hi
    simp only [List.mem_singleton] at hi'
    subst hi'
    obtain ⟨h1, h2, h3⟩ := h _ e es n g hk (pl args fun A hA p hp => (hargs A hA p hp).1)
    refine ⟨hcall _ _, ?_⟩
    have e1 : args.map (argV ρ) = (args.map fun A => A.map (·.1)).map (denL ρ) := by
      rw [List.map_map]; rfl
    rw [e1]
    refine (h3 ρ w).mono ?_
    rintro e' w' ⟨v, rfl, ho, hb⟩
    obtain ⟨ρ', hp, hv⟩ := own_row (ρ := ρ) (d := d) hB h2 h1 ho hb
    exact ⟨ρ', hp, by rw [hv]⟩

/-! ## Contracts that were walked -/

theorem add_e : EOK ⟨79, 0, pcon (k2 fun x y => [(x + y < TOP, .tup [N (x + y), E 0]), (TOP ≤ x + y, .tup [N 0, E 2])])⟩ := by
  refine k2_ok (fun a w => Try.call79 a w) fun x y hx hy p hp hc => ?_
  simp only [List.mem_cons, List.not_mem_nil, or_false] at hp
  rcases hp with rfl | rfl
  · refine ⟨plain2 hc (E_plain _), fun ρ w => ?_⟩
    simp only [List.map_cons, List.map_nil, denL_num]
    refine (add_calls x y hx hy w).mono ?_
    rintro e w' ⟨rfl, hb⟩
    exact ⟨hb, by simp only [addV, if_pos hc, Sv.den, List.map_cons, List.map_nil, denL_num]; rfl⟩
  · refine ⟨plain2 top_pos (E_plain _), fun ρ w => ?_⟩
    simp only [List.map_cons, List.map_nil, denL_num]
    refine (add_calls x y hx hy w).mono ?_
    rintro e w' ⟨rfl, hb⟩
    have hn : ¬ x + y < TOP := Nat.not_lt.2 hc
    exact ⟨hb, by simp only [addV, if_neg hn, Sv.den, List.map_cons, List.map_nil, denL_num]; rfl⟩

theorem sub_e : EOK ⟨107, 0, pcon (k2 fun x y => [(y ≤ x, .tup [N (x - y), B false]), (x < y, .tup [N (x + TOP - y), B true])])⟩ := by
  refine k2_ok (fun a w => Try.call107 a w) fun x y hx hy p hp hc => ?_
  simp only [List.mem_cons, List.not_mem_nil, or_false] at hp
  rcases hp with rfl | rfl
  · refine ⟨plain2 (by omega) (B_plain _), fun ρ w => ?_⟩
    simp only [List.map_cons, List.map_nil, denL_num]
    refine (sub_calls x y hx hy w).mono ?_
    rintro e w' ⟨rfl, hb⟩
    exact ⟨hb, by simp only [subV, if_pos hc, Sv.den, List.map_cons, List.map_nil, denL_num]; rfl⟩
  · have hc' : x < y := hc
    refine ⟨plain2 (by omega) (B_plain _), fun ρ w => ?_⟩
    simp only [List.map_cons, List.map_nil, denL_num]
    refine (sub_calls x y hx hy w).mono ?_
    rintro e w' ⟨rfl, hb⟩
    have hn : ¬ y ≤ x := Nat.not_le.2 hc
    exact ⟨hb, by simp only [subV, if_neg hn, Sv.den, List.map_cons, List.map_nil, denL_num]; rfl⟩

/-- comparisons by their sign -/
theorem cmp_e : EOK ⟨71, 0, pcon (k2 fun x y => [(True, .one [.int .i64 (cmpN x y)])])⟩ := by
  refine k2_ok (fun a w => Try.call71 a w) fun x y hx hy p hp hc => ?_
  simp only [List.mem_cons, List.not_mem_nil, or_false] at hp
  subst hp
  refine ⟨int_plain _ _, fun ρ w => ?_⟩
  simp only [List.map_cons, List.map_nil, denL_num]
  refine (cmp_calls x y hx hy w).mono ?_
  rintro e w' ⟨hb, rfl⟩
  exact ⟨hb, rfl⟩
theorem rcmp_e : EOK ⟨54, 0, pcon (k2 fun x y => [(True, .one [.int .i64 (cmpN x y)])])⟩ := by
  refine k2_ok (fun a w => Try.call54 a w) fun x y hx hy p hp hc => ?_
  simp only [List.mem_cons, List.not_mem_nil, or_false] at hp
  subst hp
  refine ⟨int_plain _ _, fun ρ w => ?_⟩
  simp only [List.map_cons, List.map_nil, denL_num]
  refine (rcmp_calls x y hx hy w).mono ?_
  rintro e w' ⟨rfl, hb⟩
  exact ⟨hb, rfl⟩
theorem radd_e : EOK ⟨53, 0, pcon (k2 fun x y => [(x + y < TOP, .tup [N (x + y), B true]), (TOP ≤ x + y, .tup [N 0, B false])])⟩ := by
  refine k2_ok (fun a w => Try.call53 a w) fun x y hx hy p hp hc => ?_
  simp only [List.mem_cons, List.not_mem_nil, or_false] at hp
  rcases hp with rfl | rfl
  · refine ⟨plain2 hc (B_plain _), fun ρ w => ?_⟩
    simp only [List.map_cons, List.map_nil, denL_num]
    refine (radd_calls x y hx hy w).mono ?_
    rintro e w' ⟨rfl, hb⟩
    have hc' : x + y < TOP := hc
    exact ⟨hb, by simp only [if_pos hc', Sv.den, List.map_cons, List.map_nil, denL_num]; rfl⟩
  · refine ⟨plain2 top_pos (B_plain _), fun ρ w => ?_⟩
    simp only [List.map_cons, List.map_nil, denL_num]
    refine (radd_calls x y hx hy w).mono ?_
    rintro e w' ⟨rfl, hb⟩
    have hn : ¬ x + y < TOP := Nat.not_lt.2 hc
    exact ⟨hb, by simp only [if_neg hn, Sv.den, List.map_cons, List.map_nil, denL_num]; rfl⟩
theorem rrest_e : EOK ⟨55, 0, pcon (k2 fun x y => [(True, .one (N (x - y)))])⟩ := by
  refine k2_ok (fun a w => Try.call55 a w) fun x y hx hy p hp hc => ?_
  simp only [List.mem_cons, List.not_mem_nil, or_false] at hp
  subst hp
  refine ⟨N_plain (by omega), fun ρ w => ?_⟩
  simp only [List.map_cons, List.map_nil, denL_num]
  rcases Nat.lt_or_ge y x with h | h
  · refine (rrest_high x y hx hy h w).mono ?_
    rintro e w' ⟨rfl, hb⟩
    exact ⟨hb, by rw [den_num]⟩
  · refine (rrest_low x y hx hy h w).mono ?_
    rintro e w' ⟨rfl, hb⟩
    exact ⟨hb, by rw [den_num, show x - y = 0 by omega]⟩
theorem zero_e : EOK ⟨88, 0, pcon (k1 fun x => [(x = 0, .one (B true)), (0 < x, .one (B false))])⟩ := by
  refine k1_ok (fun a w => Try.call88 a w) fun x hx p hp hc => ?_
  simp only [List.mem_cons, List.not_mem_nil, or_false] at hp
  rcases hp with rfl | rfl
  all_goals
    refine ⟨B_plain _, fun ρ w => ?_⟩
    simp only [List.map_cons, List.map_nil, denL_num]
    refine (zero_calls x hx w).mono ?_
    rintro e w' ⟨rfl, hb⟩
    refine ⟨hb, ?_⟩
  · have hc' : x = 0 := hc
    simp [hc', Sv.den, denL, Av.val]
  · have hc' : 0 < x := hc
    have : ¬ x = 0 := by omega
    simp [this, Sv.den, denL, Av.val]

def digK : RCon
  | [[.big 4 x]] => some (26, 1, 16, rowN (dg x))
  | _ => none
theorem digits_e : EOK ⟨93, 0, rcon digK⟩ := by
  refine row_ok (fun a w => Try.call93 a w) fun args e es n g hk ha => ?_
  unfold digK at hk
  split at hk
  · rename_i x
    cases hk
    refine ⟨by omega, rowOK_N _ _, fun ρ w => ?_⟩
    simp only [List.map_cons, List.map_nil, denL_num]
    refine (digits_calls x w).mono ?_
    rintro e' w' ⟨v, rfl, ho, hb⟩
    exact ⟨v, rfl, by rw [rowC_rowN]; exact ho, hb⟩
  · cases hk

theorem cmp_lt0 (x y : Nat) : cmpN x y < 0 ↔ x < y := by unfold cmpN; (repeat' split) <;> constructor <;> intro _ <;> omega
theorem cmp_le0 (x y : Nat) : cmpN x y ≤ 0 ↔ x ≤ y := by unfold cmpN; (repeat' split) <;> constructor <;> intro _ <;> omega
theorem cmp_ge0 (x y : Nat) : 0 ≤ cmpN x y ↔ y ≤ x := by unfold cmpN; (repeat' split) <;> constructor <;> intro _ <;> omega
theorem cmp_gt0 (x y : Nat) : 0 < cmpN x y ↔ y < x := by unfold cmpN; (repeat' split) <;> constructor <;> intro _ <;> omega

def eAdd : Entry := ⟨79, 0, pcon (k2 fun x y => [(x + y < TOP, .tup [N (x + y), E 0]), (TOP ≤ x + y, .tup [N 0, E 2])])⟩
def eSub : Entry := ⟨107, 0, pcon (k2 fun x y => [(y ≤ x, .tup [N (x - y), B false]), (x < y, .tup [N (x + TOP - y), B true])])⟩
def eCmp : Entry := ⟨71, 0, pcon (k2 fun x y => [(True, .one [.int .i64 (cmpN x y)])])⟩
def eRCmp : Entry := ⟨54, 0, pcon (k2 fun x y => [(True, .one [.int .i64 (cmpN x y)])])⟩
def eRAdd : Entry := ⟨53, 0, pcon (k2 fun x y => [(x + y < TOP, .tup [N (x + y), B true]), (TOP ≤ x + y, .tup [N 0, B false])])⟩
def eRRest : Entry := ⟨55, 0, pcon (k2 fun x y => [(True, .one (N (x - y)))])⟩
def eZero : Entry := ⟨88, 0, pcon (k1 fun x => [(x = 0, .one (B true)), (0 < x, .one (B false))])⟩
def eDigits : Entry := ⟨93, 0, rcon digK⟩

def tabA : List Entry := [eAdd, eSub, eCmp, eRCmp, eRAdd, eRRest, eZero, eDigits]
theorem tabA_ok : TabOK tabA := .cons add_e (.cons sub_e (.cons cmp_e (.cons rcmp_e (.cons radd_e (.cons rrest_e (.cons zero_e (.cons digits_e .nil)))))))

end M
end Go.Proofs.Ytmjdmhelmgcanaa

/- Contracts out of the machine's runs. -/
namespace Go.Proofs.Ytmjdmhelmgcanaa
namespace M
open Go.RowKit
variable {P : Program} {C : Ctx} {w w' : World} {ρ ρ' : Env} {σ σ' : Ms} {a : Act}

/-- a call that writes nothing of what there is -/
def base (w : World) (ρ : Env) : Base := ⟨w, fun b => w.heap.size ≤ b, ρ, fun _ h => h⟩

theorem kept_below (h : Kept (base w ρ) w') : Below w.heap.size w w' := ⟨h.os, h.tape, h.output, h.size, fun k hk => h.block k hk (Nat.not_le.2 hk)⟩

theorem den_plain {v : Sv} (h : v.all Av.plain) (ρ ρ' : Env) : v.den ρ' = v.den ρ :=
  Sv.den_congr (dom := fun _ => false) (fun _ h => by cases h) (Sv.all_mono (fun _ ha => Av.plain_inD ha _) h)

/-- numbers in, numbers out -/
theorem pure_calls (OK : CtxOK P C) {f : FuncId} {fn : Func} {c : Code} (hf : P.funcs[f]? = some fn) (hb : fn.body = some c) (hnt : C.nt = fn.ntmps) {args : List Sv} (hlen : args.length ≤ fn.ntmps) (hargs : ∀ s ∈ args, s.all Av.plain) {v : Sv} (hv : v.all Av.plain)
    (g : ∀ w0, Goes P fn.ntmps w0 [.code c] .norm (kn (argS 0 args) []) (Fin C fn.results.toList fun v' _ => v' = v)) (ρ : Env) (w : World) :
    Calls P f (args.map (Sv.den ρ)).toArray w fun e w' => Below w.heap.size w w' ∧ e = .returned (v.den ρ) := by
  have hin : InOK (base w ρ) args [] := ⟨fun s hs => Sv.all_mono (fun _ h => AvOK.of_plain h) (hargs s hs), (fun _ _ h => by cases h), (fun _ _ h => by cases h), (fun _ _ _ _ h => by cases h)⟩
  refine (calls_of OK hf hb hnt hlen hin (g (base w ρ))).mono ?_
  rintro e w' ⟨v', σ', ρ', a', rfl, rfl, hr, _⟩
  exact ⟨kept_below hr.below, by rw [den_plain hv ρ ρ']⟩

/-- the same, by lists of parts -/
theorem pure_calls' (OK : CtxOK P C) {f : FuncId} {fn : Func} {c : Code} (hf : P.funcs[f]? = some fn) (hb : fn.body = some c) (hnt : C.nt = fn.ntmps) {args : List (List Av)} (hlen : args.length ≤ fn.ntmps) (hargs : ∀ l ∈ args, ∀ a ∈ l, a.plain) {v : Sv} (hv : v.all Av.plain)
    (g : ∀ w0, Goes P fn.ntmps w0 [.code c] .norm (kn (argS 0 (args.map .one)) []) (Fin C fn.results.toList fun v' _ => v' = v)) (ρ : Env) (w : World) :
    Calls P f (args.map (denL ρ)).toArray w fun e w' => Below w.heap.size w w' ∧ e = .returned (v.den ρ) := by
  have h := pure_calls OK hf hb hnt (args := args.map .one) (by simpa using hlen) (fun s hs => by
    obtain ⟨l, hl, rfl⟩ := List.mem_map.1 hs
    exact hargs l hl) hv g ρ w
  have e : (args.map Sv.one).map (Sv.den ρ) = args.map (denL ρ) := by rw [List.map_map]; rfl
  rw [e] at h
  exact h

/-- a run without loops, to its return -/
theorem goes_fin (OK : CtxOK P C) (hm : P.follows .mixedOrders = true) {nt : Nat} (hnt : C.nt = nt) {w0 : Base} {orc : Nat → Nat} {k : List Fr} {cs : List Prop} {o' : Out} {rs : List ResultVar} {v : Sv}
    (h : seeR C rs [] (runK C orc [] 3000 k .norm σ) = some (cs, [], o', v, [])) (ho : o' = .norm ∨ o' = .ret) (hc : conj cs) : Goes P nt w0 k .norm σ (Fin C rs fun v' _ => v' = v) :=
  goes_ret OK hm hnt (H := []) h ho hc fun _ _ => rfl

theorem N2 {x y : Nat} (hx : x < TOP) (hy : y < TOP) : ∀ l ∈ [N x, N y], ∀ a ∈ l, a.plain := by
  simp only [List.mem_cons, List.not_mem_nil, or_false]
  rintro l (rfl | rfl)
  · exact N_plain hx
  · exact N_plain hy
theorem N3 {x y z : Nat} (hx : x < TOP) (hy : y < TOP) (hz : z < TOP) : ∀ l ∈ [N x, N y, N z], ∀ a ∈ l, a.plain := by
  simp only [List.mem_cons, List.not_mem_nil, or_false]
  rintro l (rfl | rfl | rfl)
  · exact N_plain hx
  · exact N_plain hy
  · exact N_plain hz
theorem N4 {x y z u : Nat} (hx : x < TOP) (hy : y < TOP) (hz : z < TOP) (hu : u < TOP) : ∀ l ∈ [N x, N y, N z, N u], ∀ a ∈ l, a.plain := by
  simp only [List.mem_cons, List.not_mem_nil, or_false]
  rintro l (rfl | rfl | rfl | rfl)
  · exact N_plain hx
  · exact N_plain hy
  · exact N_plain hz
  · exact N_plain hu
theorem N1 {x : Nat} (hx : x < TOP) : ∀ l ∈ [N x], ∀ a ∈ l, a.plain := by
  simp only [List.mem_cons, List.not_mem_nil, or_false]
  rintro l rfl
  exact N_plain hx

end M
end Go.Proofs.Ytmjdmhelmgcanaa

/- Small closers for the machine's contracts. -/
namespace Go.Proofs.Ytmjdmhelmgcanaa
namespace M
open Go.RowKit

theorem argsP_nil {p : Av → Prop} : ∀ l ∈ ([] : List (List Av)), ∀ a ∈ l, p a := fun _ h => by cases h
theorem argsP_cons {p : Av → Prop} {l : List Av} {r : List (List Av)} (h : ∀ a ∈ l, p a) (hr : ∀ m ∈ r, ∀ a ∈ m, p a) : ∀ m ∈ l :: r, ∀ a ∈ m, p a := fun m hm => by
  rcases List.mem_cons.1 hm with rfl | hm
  · exact h
  · exact hr m hm
theorem tupP {p : Av → Prop} {ls : List (List Av)} (h : ∀ m ∈ ls, ∀ a ∈ m, p a) : (Sv.tup ls).all p := h
theorem oneP {p : Av → Prop} {l : List Av} (h : ∀ a ∈ l, p a) : (Sv.one l).all p := h
theorem N_plain2 {x y : Nat} (hx : x < TOP) (hy : y < TOP) : ∀ a ∈ [Av.big 4 x, Av.big 4 y], a.plain := by
  intro a ha
  simp only [List.mem_cons, List.not_mem_nil, or_false] at ha
  rcases ha with rfl | rfl
  · exact N_plain hx _ List.mem_cons_self
  · exact N_plain hy _ List.mem_cons_self
theorem lit_plain (k : IntKind) (n : Int) : ∀ a ∈ [Av.lit k n], a.plain := fun a ha => by simp only [List.mem_singleton] at ha; subst ha; trivial

end M
end Go.Proofs.Ytmjdmhelmgcanaa

/- The lift, for the machine's contracts. -/
namespace Go.Proofs.Ytmjdmhelmgcanaa
open Go.ChangeShapes Go.WideShapes Go.ChangeAt Go.RowKit

set_option maxRecDepth 100000 in
theorem open_u16 {H : Type} {enc : TypeId × Value → H} {W : World} {base : Nat} {spare : Nat → Bool} {held : Bool} {r : Reach} {b0 : Nat} {v : Value} {d : DataW H} {ps : List MemPlace}
    (hval : Value.okWide Try.prog W r b0 64 v) (hd : DataW.Trod enc Try.prog W base spare held 64 v d ps) : ∃ n : Int, (0 ≤ n ∧ n < 65536) ∧ v = .int .u16 n := by
  obtain ⟨n, rfl⟩ := okWide_int Try.underlying64 hval
  obtain ⟨fuel, hf⟩ := hd
  obtain ⟨m, e, -, w⟩ := DataW.trod_int Try.underlying64 hf
  have e' : n = m := by
    have := e
    simp [Value.cells] at this
    exact this
  subst e'
  simp only [Lit.wf, Bool.and_eq_true, decide_eq_true_eq] at w
  have h1 : IntKind.u16.min = 0 := rfl
  have h2 : IntKind.u16.max = 65535 := rfl
  exact ⟨n, by omega, rfl⟩
set_option maxRecDepth 100000 in
theorem open_bool {W : World} {r : Reach} {b0 : Nat} {v : Value} (hval : Value.okWide Try.prog W r b0 4 v) : ∃ b : Bool, v = .bool b := okWide_bool Try.underlying4 hval

theorem M.denL_int (ρ : M.Env) (k : IntKind) (n : Int) : M.denL ρ [.int k n] = .int k n := rfl
theorem M.denL_bool (ρ : M.Env) (b : Bool) : M.denL ρ [.bool b] = .bool b := rfl

end Go.Proofs.Ytmjdmhelmgcanaa

/- Facts of the head of the program, reckoned once for all rows. -/
namespace Go.Proofs.Ytmjdmhelmgcanaa

/-- signs, by their numbers -/
def cs (l : List Nat) : List Char := l.map Char.ofNat

/-- the signs of the head's words -/
def headSigns : List Char := cs [
  104, 97, 114, 110, 101, 115, 115, 32, 48, 99, 98, 100, 53, 48, 98, 53, 53, 56, 55, 51, 100, 101, 97, 100, 54, 102, 49, 49, 52, 98, 102, 54, 57, 101, 49, 56, 52, 52, 55,
  55, 102, 54, 100, 50, 48, 56, 57, 102, 51, 51, 48, 54, 101, 101, 50, 98, 98, 51, 49, 50, 48, 57, 57, 56, 52, 99, 98, 49, 55, 102, 56, 55, 32, 99, 117, 116, 32, 97, 116,
  32, 106, 111, 105, 110, 116, 117, 114, 101, 47, 106, 111, 105, 110, 116, 117, 114, 101, 108, 97, 119, 48, 50, 46, 67, 111, 105, 110, 115, 82, 105, 103, 104, 116, 115, 32,
  106, 111, 105, 110, 116, 117, 114, 101, 47, 106, 111, 105, 110, 116, 117, 114, 101, 108, 97, 119, 48, 50, 46, 67, 111, 105, 110, 115, 65, 109, 111, 117, 110, 116, 115,
  32, 106, 111, 105, 110, 116, 117, 114, 101, 47, 106, 111, 105, 110, 116, 117, 114, 101, 108, 97, 119, 48, 50, 46, 67, 111, 105, 110, 115, 65, 100, 100, 115, 32, 106, 111,
  105, 110, 116, 117, 114, 101, 47, 106, 111, 105, 110, 116, 117, 114, 101, 108, 97, 119, 48, 50, 46, 67, 111, 105, 110, 115, 66, 97, 99, 107, 32, 106, 111, 105, 110, 116,
  117, 114, 101, 47, 106, 111, 105, 110, 116, 117, 114, 101, 108, 97, 119, 48, 55, 46, 72, 111, 108, 100, 84, 114, 97, 99, 107, 115, 32, 106, 111, 105, 110, 116, 117, 114,
  101, 47, 106, 111, 105, 110, 116, 117, 114, 101, 108, 97, 119, 48, 55, 46, 72, 111, 108, 100, 66, 97, 99, 107, 115, 32, 106, 111, 105, 110, 116, 117, 114, 101, 47, 106,
  111, 105, 110, 116, 117, 114, 101, 108, 97, 119, 48, 55, 46, 72, 111, 108, 100, 83, 112, 101, 110, 100, 115, 32, 106, 111, 105, 110, 116, 117, 114, 101, 47, 106, 111,
  105, 110, 116, 117, 114, 101, 108, 97, 119, 48, 55, 46, 72, 111, 108, 100, 65, 108, 108, 32, 106, 111, 105, 110, 116, 117, 114, 101, 47, 106, 111, 105, 110, 116, 117,
  114, 101, 108, 97, 119, 48, 55, 46, 72, 111, 108, 100, 72, 111, 108, 100, 115, 32, 106, 111, 105, 110, 116, 117, 114, 101, 47, 106, 111, 105, 110, 116, 117, 114, 101,
  108, 97, 119, 48, 50, 46, 67, 111, 105, 110, 115, 84, 97, 107, 101, 115, 32, 106, 111, 105, 110, 116, 117, 114, 101, 47, 106, 111, 105, 110, 116, 117, 114, 101, 108, 97,
  119, 48, 50, 46, 67, 111, 105, 110, 115, 80, 97, 114, 116, 115, 32, 106, 111, 105, 110, 116, 117, 114, 101, 47, 106, 111, 105, 110, 116, 117, 114, 101, 108, 97, 119, 48,
  50, 46, 67, 111, 105, 110, 115, 79, 119, 110, 32, 106, 111, 105, 110, 116, 117, 114, 101, 47, 106, 111, 105, 110, 116, 117, 114, 101, 108, 97, 119, 48, 56, 46, 83, 104,
  97, 114, 101, 87, 111, 114, 116, 104, 115, 32, 106, 111, 105, 110, 116, 117, 114, 101, 47, 106, 111, 105, 110, 116, 117, 114, 101, 108, 97, 119, 48, 56, 46, 83, 104, 97,
  114, 101, 70, 101, 119, 101, 115, 116, 115, 32, 106, 111, 105, 110, 116, 117, 114, 101, 47, 106, 111, 105, 110, 116, 117, 114, 101, 108, 97, 119, 48, 56, 46, 83, 104, 97,
  114, 101, 80, 97, 114, 116, 115, 32, 106, 111, 105, 110, 116, 117, 114, 101, 47, 106, 111, 105, 110, 116, 117, 114, 101, 108, 97, 119, 48, 56, 46, 83, 104, 97, 114, 101,
  83, 112, 108, 105, 116, 115, 32, 106, 111, 105, 110, 116, 117, 114, 101, 47, 106, 111, 105, 110, 116, 117, 114, 101, 108, 97, 119, 48, 56, 46, 83, 104, 97, 114, 101, 82,
  101, 115, 116, 32, 106, 111, 105, 110, 116, 117, 114, 101, 47, 106, 111, 105, 110, 116, 117, 114, 101, 108, 97, 119, 48, 56, 46, 83, 104, 97, 114, 101, 78, 101, 119, 115,
  32, 106, 111, 105, 110, 116, 117, 114, 101, 47, 106, 111, 105, 110, 116, 117, 114, 101, 108, 97, 119, 48, 56, 46, 83, 104, 97, 114, 101, 76, 111, 115, 115, 32, 106, 111,
  105, 110, 116, 117, 114, 101, 47, 106, 111, 105, 110, 116, 117, 114, 101, 108, 97, 119, 48, 49, 46, 78, 117, 109, 79, 114, 100, 101, 114, 115, 32, 106, 111, 105, 110,
  116, 117, 114, 101, 47, 106, 111, 105, 110, 116, 117, 114, 101, 108, 97, 119, 48, 49, 46, 78, 117, 109, 80, 114, 111, 100, 117, 99, 116, 115, 32, 106, 111, 105, 110, 116,
  117, 114, 101, 47, 106, 111, 105, 110, 116, 117, 114, 101, 108, 97, 119, 48, 49, 46, 78, 117, 109, 80, 97, 114, 116, 115, 32, 106, 111, 105, 110, 116, 117, 114, 101, 47,
  106, 111, 105, 110, 116, 117, 114, 101, 108, 97, 119, 48, 49, 46, 78, 117, 109, 70, 108, 111, 111, 114, 115, 32, 106, 111, 105, 110, 116, 117, 114, 101, 47, 106, 111,
  105, 110, 116, 117, 114, 101, 108, 97, 119, 48, 49, 46, 78, 117, 109, 87, 104, 111, 108, 101, 32, 106, 111, 105, 110, 116, 117, 114, 101, 47, 106, 111, 105, 110, 116,
  117, 114, 101, 108, 97, 119, 48, 49, 46, 78, 117, 109, 66, 97, 99, 107, 32, 106, 111, 105, 110, 116, 117, 114, 101, 47, 106, 111, 105, 110, 116, 117, 114, 101, 108, 97,
  119, 48, 49, 46, 78, 117, 109, 66, 121, 116, 101, 115, 32, 106, 111, 105, 110, 116, 117, 114, 101, 47, 106, 111, 105, 110, 116, 117, 114, 101, 108, 97, 119, 48, 49, 46,
  78, 117, 109, 82, 101, 97, 100, 115, 32, 106, 111, 105, 110, 116, 117, 114, 101, 47, 106, 111, 105, 110, 116, 117, 114, 101, 108, 97, 119, 48, 49, 46, 78, 117, 109, 83,
  117, 109, 115]

set_option maxRecDepth 100000 in
theorem head_eq : Try.prog.initOrder = String.ofList headSigns := by kernel_rfl
theorem head_signs : Try.prog.initOrder.toList = headSigns := (congrArg String.toList head_eq).trans String.toList_ofList
def rest : List Char := headSigns.drop 77
def cut : List Char := cs [99, 117, 116]
def word1 : List Char := cs [104, 97, 114, 110, 101, 115, 115]
def word2 : List Char := cs [48, 99, 98, 100, 53, 48, 98, 53, 53, 56, 55, 51, 100, 101, 97, 100, 54, 102, 49, 49, 52, 98, 102, 54, 57, 101, 49, 56, 52, 52, 55, 55, 102, 54, 100, 50, 48, 56, 57, 102, 51, 51, 48, 54, 101, 101, 50, 98, 98, 51, 49, 50, 48, 57, 57, 56, 52, 99, 98, 49, 55, 102, 56, 55]
theorem head_split (R : List Char) : wordsSigns (cs [104, 97, 114, 110, 101, 115, 115, 32, 48, 99, 98, 100, 53, 48, 98, 53, 53, 56, 55, 51, 100, 101, 97, 100, 54, 102, 49, 49, 52, 98, 102, 54, 57, 101, 49, 56, 52, 52, 55, 55, 102, 54, 100, 50, 48, 56, 57, 102, 51, 51, 48, 54, 101, 101, 50, 98, 98, 51, 49, 50, 48, 57, 57, 56, 52, 99, 98, 49, 55, 102, 56, 55, 32, 99, 117, 116, 32] ++ R) = word1 :: word2 :: cut :: wordsSigns R := rfl
theorem head_rest : headSigns = cs [104, 97, 114, 110, 101, 115, 115, 32, 48, 99, 98, 100, 53, 48, 98, 53, 53, 56, 55, 51, 100, 101, 97, 100, 54, 102, 49, 49, 52, 98, 102, 54, 57, 101, 49, 56, 52, 52, 55, 55, 102, 54, 100, 50, 48, 56, 57, 102, 51, 51, 48, 54, 101, 101, 50, 98, 98, 51, 49, 50, 48, 57, 57, 56, 52, 99, 98, 49, 55, 102, 56, 55, 32, 99, 117, 116, 32] ++ rest := rfl
theorem head_one : (word1 == "harness".toList || word1 == "ownmain".toList) = true := by decide +kernel
theorem head_sum : isSumSigns word2 = true := by decide +kernel
theorem behind {h s : List Char} {r : List (List Char)} (h1 : (h == "harness".toList || h == "ownmain".toList) = true) (h2 : isSumSigns s = true) : behindMainWord (h :: s :: r) = r := by
  simp only [behindMainWord, h1, h2, Bool.and_self, if_true]
theorem head_words : behindMainWord (wordsSigns Try.prog.initOrder.toList) = cut :: wordsSigns rest := by
  rw [head_signs, head_rest, head_split, behind head_one head_sum]
theorem make_of (P : Program) {r : List (List Char)} (h : behindMainWord (wordsSigns P.initOrder.toList) = cut :: r) : P.make = some .cut := by
  have h1 : (cut == "gc".toList || cut == "spec".toList) = false := by decide +kernel
  have h2 : (cut == "cut".toList) = true := by decide +kernel
  unfold Program.make
  rw [h]
  simp only [h1, h2, Bool.true_or, if_true, Bool.false_eq_true, if_false]
theorem head_make : Try.prog.make = some .cut := make_of _ head_words
theorem strip_cut (r : List (List Char)) : stripLifts liftWords (cut :: r) = ([], cut :: r) := by
  simp only [liftWords, stripLifts]
  simp only [show (cut == "finals".toList) = false by decide +kernel, show (cut == "reflectrows".toList) = false by decide +kernel, show (cut == "leanrows".toList) = false by decide +kernel, show (cut == "onebuild".toList) = false by decide +kernel, show (cut == "publicsums".toList) = false by decide +kernel, show (cut == "eqguard".toList) = false by decide +kernel, show (cut == "ownunsafe".toList) = false by decide +kernel, show (cut == "libbeside".toList) = false by decide +kernel, show (cut == "ownbeside".toList) = false by decide +kernel, show (cut == "reflbeside".toList) = false by decide +kernel, show (cut == "aliases".toList) = false by decide +kernel, show (cut == "afterinit".toList) = false by decide +kernel, show (cut == "crcplain".toList) = false by decide +kernel, show (cut == "roadunsafe".toList) = false by decide +kernel, show (cut == "fmthandon".toList) = false by decide +kernel, Bool.false_eq_true, if_false]
theorem head_lifts : Try.prog.headLifts = [] := by
  unfold Program.headLifts
  rw [head_words, strip_cut]
  simp
theorem head_finals : Try.prog.liftsFinal = false := by
  unfold Program.liftsFinal
  rw [head_words, head_lifts]
  have h1 : (some cut == some "carried".toList) = false := by decide +kernel
  simp only [List.head?_cons, h1]
  rfl
theorem later : Try.prog.laysLater = false := by kernel_rfl
theorem reflects : Try.prog.bearsReflect = false := by kernel_rfl
theorem doors : Try.prog.doorFits [] = true := by kernel_rfl
theorem facts_enters (P : Program) {r : List (List Char)} (h : behindMainWord (wordsSigns P.initOrder.toList) = cut :: r) (h1 : P.laysLater = false) (h2 : P.bearsReflect = false) (h3 : P.doorFits [] = true) : P.mayEnter = true := by
  unfold Program.mayEnter
  rw [h]
  simp [strip_cut, h1, h2, h3]
  exact .inr (by decide +kernel)
theorem head_enters : Try.prog.mayEnter = true := facts_enters _ head_words later reflects doors
end Go.Proofs.Ytmjdmhelmgcanaa

/- Rows of digits for the machine: exchanged for rows of the same cells, read by calls, made by calls. -/
namespace Go.Proofs.Ytmjdmhelmgcanaa
namespace M
open Go.RowKit
variable {P : Program} {w w' : World} {ρ ρ' : Env} {σ σ' : Ms} {a : Act}

/-- the same blocks, but for rows whose cells are the same -/
inductive HSim : List (Nat × Bk) → List (Nat × Bk) → Prop
  | nil : HSim [] []
  | same {H H' : List (Nat × Bk)} (p : Nat × Bk) : HSim H H' → HSim (p :: H) (p :: H')
  | row {H H' : List (Nat × Bk)} {id : Nat} {o : Bool} {e : TypeId} {es n : Nat} {f g : Nat → List Av} : RowOK es n g → rowC f n = rowC g n → HSim H H' → HSim ((id, .row o e es n f) :: H) ((id, .row o e es n g) :: H')

theorem HSim.refl : ∀ H, HSim H H
  | [] => .nil
  | p :: H => .same p (HSim.refl H)

/-- a block and its like -/
def BSim (k k' : Bk) : Prop := k = k' ∨ ∃ o e es n f g, k = .row o e es n f ∧ k' = .row o e es n g ∧ RowOK es n g ∧ rowC f n = rowC g n

theorem HSim.look {H H' : List (Nat × Bk)} (h : HSim H H') (i : Nat) : (lookH H i).isSome = (lookH H' i).isSome ∧ ∀ k', lookH H' i = some k' → ∃ k, lookH H i = some k ∧ BSim k k' := by
  induction h with
  | nil => exact ⟨rfl, fun _ h => by cases h⟩
  | same p h ih =>
    obtain ⟨j, k⟩ := p
    simp only [lookH]
    cases hb : Nat.beq j i with
    | true => exact ⟨rfl, fun k' h => ⟨k', h, .inl rfl⟩⟩
    | false => exact ih
  | @row H H' id o e es n f g hg hc h ih =>
    simp only [lookH]
    cases hb : Nat.beq id i with
    | true =>
      refine ⟨rfl, fun k' h => ⟨_, rfl, ?_⟩⟩
      cases h
      exact .inr ⟨o, e, es, n, f, g, rfl, rfl, hg, hc⟩
    | false => exact ih

theorem BSim.ok {k k' : Bk} (h : BSim k k') {B : Nat → Prop} {id : Nat} (hk : BkOK ρ w B id k) : BkOK ρ w B id k' := by
  rcases h with rfl | ⟨o, e, es, n, f, g, rfl, rfl, hg, hc⟩
  · exact hk
  · cases o with
    | true =>
      obtain ⟨h1, h2, h3, h4, h5, cur, h6, h7, h8⟩ := hk
      exact ⟨hg, h2, h3, h4, h5, cur, h6, h7, by rw [← hc]; exact h8⟩
    | false =>
      obtain ⟨h1, h2, h3, h4, h5, h6⟩ := hk
      exact ⟨hg, h2, h3, h4, h5, by rw [← hc]; exact h6⟩
theorem BSim.own {k k' : Bk} (h : BSim k k') : k'.own = k.own := by
  rcases h with rfl | ⟨o, e, es, n, f, g, rfl, rfl, hg, hc⟩ <;> rfl
theorem BSim.named {k k' : Bk} (h : BSim k k') {p : Av → Prop} (hk : k.named p) : k'.named p := by
  rcases h with rfl | ⟨o, e, es, n, f, g, rfl, rfl, hg, hc⟩
  · exact hk
  · trivial

theorem goes_sim {nt : Nat} {w0 : Base} {k : List Fr} {o : Out} {S : List (Nat × Sv)} {H H' : List (Nat × Bk)} {Z : List Fr → Out → Ms → Prop} (h : HSim H H') (g : Goes P nt w0 k o (kn S H') Z) : Goes P nt w0 k o (kn S H) Z := by
  intro Q hQ ρ a w hr
  have hsome : ∀ i, (lookH H i).isSome = (lookH H' i).isSome := fun i => (h.look i).1
  have hdom : (kn S H').dom = (kn S H).dom := by
    funext i
    show (Nat.ble 1000 i || (lookH H' i).isSome) = (Nat.ble 1000 i || (lookH H i).isSome)
    rw [hsome i]
  have hav : ∀ {x : Av}, AvOK (kn S H) x → AvOK (kn S H') x := fun hx => hx.mono (fun i hi => by rw [hdom]; exact hi) (fun i hi => by
    show (lookH H' i).isSome = true
    rw [← hsome i]; exact hi)
  refine g Q hQ ρ a w ⟨hr.size, hr.defers, hr.slots, hr.below, fun id k hk => ?_, fun i j ki kj hi hj h1 h2 he => ?_, fun i => Sv.all_mono (fun _ hx => hav hx) (hr.okS i), fun id k hk => ?_, fun id hid => ?_, fun i hi => ?_⟩
  · obtain ⟨k0, h0, hs⟩ := (h.look id).2 k hk
    exact hs.ok (hr.blocks id k0 h0)
  · obtain ⟨ki0, hi0, hsi⟩ := (h.look i).2 ki hi
    obtain ⟨kj0, hj0, hsj⟩ := (h.look j).2 kj hj
    exact hr.inj i j ki0 kj0 hi0 hj0 (by rw [← hsi.own]; exact h1) (by rw [← hsj.own]; exact h2) he
  · obtain ⟨k0, h0, hs⟩ := (h.look id).2 k hk
    have h3 := hr.okH id k0 h0
    refine hs.named (?_ : k0.named (AvOK (kn S H')))
    cases k0 with
    | var l t => exact fun x hx => hav (h3 x hx)
    | arr l t => exact fun x hx => hav (h3 x hx)
    | row _ _ _ _ _ => trivial
    | dead => trivial
  · rw [hdom]
    refine hr.hdom id ?_
    show (lookH H id).isSome = true
    rw [hsome id]; exact hid
  · rw [hdom]; exact hr.names i hi

/-! ## Digits -/

def rd1 : List Av → Nat
  | [.int .u64 v] => v.toNat
  | [.lit .u64 v] => v.toNat
  | _ => 0
def rd (f : Nat → List Av) (i : Nat) : Nat := rd1 (f i)
/-- n digits, below b -/
def digs (f : Nat → List Av) (n b : Nat) : Prop := ∀ i, i < n → f i = [.int .u64 (rd f i : Nat)] ∧ rd f i < b

theorem rd_rowN (F : Nat → Nat) : rd (rowN F) = F := by funext i; simp [rd, rowN, rd1]
theorem digs_rowN {F : Nat → Nat} {n b : Nat} (h : ∀ i, i < n → F i < b) : digs (rowN F) n b := fun i hi => ⟨by rw [rd_rowN]; rfl, by rw [rd_rowN]; exact h i hi⟩
theorem digs_row {f : Nat → List Av} {n b : Nat} (h : digs f n b) : rowC f n = rowC (rowN (rd f)) n := rowC_congr fun i hi => (h i hi).1
theorem rowN_congr {F G : Nat → Nat} {n : Nat} (h : ∀ i, i < n → F i = G i) : rowC (rowN F) n = rowC (rowN G) n := rowC_congr fun i hi => by simp only [rowN, h i hi]

theorem num_upd (F : Nat → Nat) {j u k : Nat} (h : j < k) : num (upd F j u) k + F j * 65536 ^ j = num F k + u * 65536 ^ j := by
  induction k with
  | zero => omega
  | succ k ih =>
    rcases Nat.lt_or_eq_of_le (Nat.le_of_lt_succ h) with h1 | rfl
    · have := ih h1
      simp only [num, upd_ne F u (by omega : k ≠ j)]
      omega
    · have e : num (upd F j u) j = num F j := num_congr fun i hi => upd_ne F u (by omega)
      simp only [num, upd_same, e]
      omega
theorem num_zero (n : Nat) : num (fun _ => 0) n = 0 := by
  induction n with
  | zero => rfl
  | succ n ih => rw [num, ih]; simp
theorem dg_num {F : Nat → Nat} {n : Nat} (h : ∀ i, i < n → F i < 65536) : ∀ i, i < n → dg (num F n) i = F i := by
  have key : ∀ k i, k + i ≤ n → ∃ q, num F (k + i) = num F k + q * 65536 ^ k := by
    intro k i
    induction i with
    | zero => intro _; exact ⟨0, by simp⟩
    | succ i ih =>
      intro hk
      obtain ⟨q, hq⟩ := ih (by omega)
      refine ⟨q + F (k + i) * 65536 ^ i, ?_⟩
      show num F (k + i) + F (k + i) * 65536 ^ (k + i) = _
      rw [hq, Nat.pow_add, Nat.add_mul, Nat.mul_assoc, Nat.mul_comm (65536 ^ k) (65536 ^ i)]
      omega
  intro i hi
  obtain ⟨q, hq⟩ := key (i + 1) (n - (i + 1)) (by omega)
  rw [show i + 1 + (n - (i + 1)) = n by omega] at hq
  have hl := num_lt (f := F) (k := i) fun j hj => h j (by omega)
  have h0 := h i hi
  have hp : 0 < 65536 ^ i := Nat.pow_pos (by omega)
  unfold dg
  rw [hq, num, Nat.pow_succ, show q * (65536 ^ i * 65536) = q * 65536 * 65536 ^ i by ac_rfl, Nat.add_assoc, ← Nat.add_mul, Nat.add_mul_div_right _ _ hp, Nat.div_eq_of_lt hl]
  omega
theorem num_top {F G : Nat → Nat} {k n : Nat} (hF : ∀ i, i < n → F i < 65536) (hk : k < n) (he : ∀ i, k < i → i < n → F i = G i) (hl : F k < G k) : num F n < num G n := by
  have key : ∀ m, k + 1 + m ≤ n → num F (k + 1 + m) < num G (k + 1 + m) := by
    intro m
    induction m with
    | zero =>
      intro _
      have h1 := num_lt (f := F) (k := k) fun i hi => hF i (by omega)
      show num F k + F k * 65536 ^ k < num G k + G k * 65536 ^ k
      have h2 : (F k + 1) * 65536 ^ k ≤ G k * 65536 ^ k := Nat.mul_le_mul_right _ hl
      rw [Nat.add_mul, Nat.one_mul] at h2
      omega
    | succ m ih =>
      intro hm
      have h1 := ih (by omega)
      have h2 := he (k + 1 + m) (by omega) (by omega)
      show num F (k + 1 + m) + F (k + 1 + m) * 65536 ^ (k + 1 + m) < num G (k + 1 + m) + G (k + 1 + m) * 65536 ^ (k + 1 + m)
      rw [h2]; omega
  have := key (n - (k + 1)) (by omega)
  rwa [show k + 1 + (n - (k + 1)) = n by omega] at this

/-! ## Calls that read rows -/

/-- a row as it may be read -/
theorem rd_only {B : Nat → Prop} {id : Nat} {o : Bool} {e : TypeId} {es n : Nat} {f : Nat → List Av} (h : BkOK ρ w B id (.row o e es n f)) :
    RowOK es n f ∧ n ≤ ρ.c id ∧ ρ.c id ≤ maxLen ∧ ρ.b id < w.heap.size ∧ ∀ j u, (rowC f n)[j]? = some u → w.cell? ⟨ρ.b id, ρ.o id + j, none⟩ = some u := by
  cases o with
  | false => obtain ⟨h1, h2, h3, h4, h5, h6⟩ := h; exact ⟨h1, h2, h3, h5, h6⟩
  | true =>
    obtain ⟨h1, h2, h3, h4, h5, cur, h6, h7, h8⟩ := h
    refine ⟨h1, h2, h3, (Array.getElem?_eq_some_iff.1 h6).1, fun j u hj => ?_⟩
    have h9 := cell_of_row w (ρ.b id) j cur e (0, 0) h6
    rw [h5, Nat.zero_add, h9, ← Array.getElem?_toList]
    rw [← h8, List.getElem?_take] at hj
    split at hj
    · exact hj
    · cases hj

theorem read_bk {B : Nat → Prop} {id i : Nat} {o : Bool} {e : TypeId} {es n : Nat} {f : Nat → List Av} (h : BkOK ρ w B id (.row o e es n f)) (hb : ρ'.b i = ρ.b id) (ho : ρ'.o i = ρ.o id) (hc : ρ'.c i = ρ.c id) :
    BkOK ρ' w (fun b => w.heap.size ≤ b) i (.row false e es n f) := by
  obtain ⟨h1, h2, h3, h4, h5⟩ := rd_only h
  exact ⟨h1, by rw [hc]; exact h2, by rw [hc]; exact h3, by rw [hb]; exact Nat.not_le.2 h4, by rw [hb]; exact h4, by rw [hb, ho]; exact h5⟩

/-- one's own row, newly made, as a call leaves it -/
theorem fresh_post {nt s d : Nat} {ρc ρe : Env} {B : Nat → Prop} {e : TypeId} {es n : Nat} {f g : Nat → List Av} (hB : ∀ b, w.heap.size ≤ b → B b) (hr : Rep nt (base w ρc) ρ' σ' a w') (hs : σ'.heap s = some (.row true e es n f)) (hg : RowOK es n g) (hc : rowC f n = rowC g n) :
    EffPost ρe (ρe.set d (ρ'.b s) (ρ'.c s)) w w' B (.new d (.row true e es n g)) := by
  obtain ⟨h1, h2, h3, h4, h5, cur, h6, h7, h8⟩ := hr.blocks s _ hs
  have hk := kept_below hr.below
  refine ⟨hk.os, hk.tape, hk.output, hk.size, fun i hi => Env.set_ne fun e => hi (by rw [e]; rfl), fun b hb _ => hk.block b hb, fun id k h => ?_, fun d' h _ => ?_⟩
  · cases h
    exact own_block hg h2 h3 (hB _ h4) h6 h7 (by rw [← hc]; exact h8)
  · cases h
    exact .inl (by simp [Env.set, upd_same]; exact h4)
theorem fresh_val {nt s d : Nat} {ρc ρe : Env} {e : TypeId} {es n : Nat} {f : Nat → List Av} (hr : Rep nt (base w ρc) ρ' σ' a w') (hs : σ'.heap s = some (.row true e es n f)) :
    (Av.sl s es 0 n).val ρ' = (Av.sl d es 0 n).val (ρe.set d (ρ'.b s) (ρ'.c s)) := by
  obtain ⟨h1, h2, h3, h4, h5, cur, h6, h7, h8⟩ := hr.blocks s _ hs
  rw [sl_val]
  simp [Av.val, h5]

/-- what is handed in, plain -/
theorem plain_in (w0 : Base) (args : List (List Av)) (h : ∀ l ∈ args, ∀ a ∈ l, a.plain) : InOK w0 (args.map .one) [] :=
  ⟨fun s hs => by
    obtain ⟨l, hl, rfl⟩ := List.mem_map.1 hs
    exact fun a ha => AvOK.of_plain (h l hl a ha), (fun _ _ h => by cases h), (fun _ _ h => by cases h), (fun _ _ _ _ h => by cases h)⟩

/-- a contract of a call that makes a row, out of a run of the machine -/
theorem row_ok' {f : Nat} (hcall : ∀ args w, (callFunc f args).run Try.prog w = .ok (.enter f args) w) {cls : Nat} {k : RCon}
    (h : ∀ args e es n g, k args = some (e, es, n, g) → (∀ A ∈ args, ∀ a ∈ A, a.name = none → a.plain) → RowOK es n g ∧
      ∀ ρ w, Calls Try.prog f (args.map (denL ρ)).toArray w fun e' w' => ∃ nt ρc ρ' σ' a' s f, e' = .returned ((Sv.one [.sl s es 0 n]).den ρ') ∧ Rep nt (base w ρc) ρ' σ' a' w' ∧ σ'.heap s = some (.row true e es n f) ∧ rowC f n = rowC g n) :
    EOK ⟨f, cls, rcon k⟩ := by
  have pl : ∀ (args : List RArg), (∀ A ∈ args, ∀ p ∈ A, (p.1.name = none → p.1.plain)) → ∀ A ∈ args.map fun A => A.map (·.1), ∀ a ∈ A, a.name = none → a.plain := by
    intro args hargs A hA a ha
    obtain ⟨A', hA', rfl⟩ := List.mem_map.1 hA
    obtain ⟨q, hq, rfl⟩ := List.mem_map.1 ha
    exact hargs A' hA' q hq
  constructor
  · intro args outs ho hargs i oc hi hc d
    obtain ⟨⟨e, es, n, g⟩, hk, rfl⟩ := Option.map_eq_some_iff.1 ho
    have hi' := List.mem_of_getElem? hi
    simp only [List.mem_singleton] at hi'
    subst hi'
    obtain ⟨h2, _⟩ := h _ e es n g hk (pl args fun A hA p hp => (hargs A hA p hp).1)
    exact ⟨(fun _ h => by cases h; rfl), (fun _ h => by cases h), (fun _ _ h => by cases h; exact ⟨rfl, trivial, h2⟩), one1 (.inr (.inl ⟨rfl, rfl, rfl⟩))⟩
  · intro args outs ho i oc hi hc ρ w B d hB hargs hd _
    obtain ⟨⟨e, es, n, g⟩, hk, rfl⟩ := Option.map_eq_some_iff.1 ho
    have hi' := List.mem_of_getElem? hi
    simp only [List.mem_singleton] at hi'
    subst hi'
    obtain ⟨h2, h3⟩ := h _ e es n g hk (pl args fun A hA p hp => (hargs A hA p hp).1)
    refine ⟨hcall _ _, ?_⟩
    have e1 : args.map (argV ρ) = (args.map fun A => A.map (·.1)).map (denL ρ) := by
      rw [List.map_map]; rfl
    rw [e1]
    refine (h3 ρ w).mono ?_
    rintro e' w' ⟨nt, ρc, ρ', σ', a', s, f, rfl, hr, hs, hc'⟩
    exact ⟨_, fresh_post (d := d) (ρe := ρ) hB hr hs h2 hc', congrArg _ (fresh_val (ρe := ρ) hr hs)⟩

/-! ## Calls that read rows and give plain values -/

abbrev DCon := List RArg → Option (List (Prop × Sv))
def dcon (k : DCon) : Con := fun args => (k args).map fun l => l.map fun p => ⟨p.1, fun _ => p.2, fun _ => .nop⟩

theorem dcon_ok {f : Nat} (hcall : ∀ args w, (callFunc f args).run Try.prog w = .ok (.enter f args) w) {k : DCon} {cls : Nat}
    (h : ∀ args l, k args = some l → ∀ p ∈ l, p.1 → p.2.all Av.plain ∧
      ∀ ρ w (B : Nat → Prop), (∀ A ∈ args, ∀ q ∈ A, ArgOK ρ w B q) → Calls Try.prog f (args.map (argV ρ)).toArray w fun e w' => Below w.heap.size w w' ∧ e = .returned (p.2.den ρ)) : EOK ⟨f, cls, dcon k⟩ := by
  have key : ∀ args outs, dcon k args = some outs → ∀ (i : Nat) oc, outs[i]? = some oc → ∃ l p, k args = some l ∧ p ∈ l ∧ oc = ⟨p.1, fun _ => p.2, fun _ => .nop⟩ := by
    intro args outs ho i oc hi
    obtain ⟨l, hl, rfl⟩ := Option.map_eq_some_iff.1 ho
    rw [List.getElem?_map] at hi
    obtain ⟨p, hp, rfl⟩ := Option.map_eq_some_iff.1 hi
    exact ⟨l, p, hl, List.mem_of_getElem? hp, rfl⟩
  constructor
  · intro args outs ho hargs i oc hi hc d
    obtain ⟨l, p, hl, hp, rfl⟩ := key args outs ho i oc hi
    have h1 := (h _ l hl p hp hc).1
    exact ⟨(fun _ h => by cases h), (fun _ h => by cases h), (fun _ _ h => by cases h), Sv.all_mono (fun _ h => .inl h) h1⟩
  · intro args outs ho i oc hi hc ρ w B d hB hargs hd _
    obtain ⟨l, p, hl, hp, rfl⟩ := key args outs ho i oc hi
    have h2 := (h _ l hl p hp hc).2 ρ w B hargs
    refine ⟨hcall _ _, h2.mono ?_⟩
    rintro e' w' ⟨hb, rfl⟩
    exact ⟨ρ, postBelow hb, rfl⟩

/-- rows that may be read, handed in -/
theorem in_reads {w0 : Base} {args : List Sv} {H : List (Nat × Bk)} (hrows : ∀ p ∈ H, p.2.own = false ∧ p.2.named (fun _ => False) ∧ BkOK w0.ρ w0.w w0.F p.1 p.2)
    (hargs : ∀ s ∈ args, s.all fun a => a.plain ∨ ∃ id k, a.name = some id ∧ lookH H id = some k) : InOK w0 args H := by
  refine ⟨fun s hs => Sv.all_mono ?_ (hargs s hs), fun id k hk => (hrows _ (lookH_mem hk)).2.2, fun id k hk => ?_, fun i j ki kj hi hj h1 _ _ => ?_⟩
  · rintro x (hx | ⟨id, k, hx, hk⟩)
    · exact AvOK.of_plain hx
    · unfold AvOK
      rw [hx]
      refine ⟨?_, ?_⟩
      · show (Nat.ble 1000 id || (lookH H id).isSome) = true
        rw [hk]; simp
      · show (lookH H id).isSome = true
        rw [hk]; rfl
  · have h2 := (hrows _ (lookH_mem hk)).2.1
    cases k with
    | var l t => exact fun a ha => (h2 a ha).elim
    | arr l t => exact fun a ha => (h2 a ha).elim
    | row _ _ _ _ _ => trivial
    | dead => trivial
  · have := (hrows _ (lookH_mem hi)).1
    simp only at this
    rw [this] at h1; cases h1

/-- the numbers of a row that is read -/
theorem read_num {B : Nat → Prop} {id i : Nat} {o : Bool} {n b : Nat} {f : Nat → List Av} (h : BkOK ρ w B id (.row o 26 1 n f)) (hd : digs f n b) (hb : ρ'.b i = ρ.b id) (ho : ρ'.o i = ρ.o id) (hc : ρ'.c i = ρ.c id) :
    BkOK ρ' w (fun b => w.heap.size ≤ b) i (.row false 26 1 n (rowN (rd f))) :=
  BSim.ok (.inr ⟨_, _, _, _, _, _, rfl, rfl, rowOK_N _ _, digs_row hd⟩) (read_bk h hb ho hc)

end M
end Go.Proofs.Ytmjdmhelmgcanaa

/- A name, changed for another one: so that a slot can name a new block again. -/
namespace Go.Proofs.Ytmjdmhelmgcanaa
namespace M
open Go.RowKit
variable {P : Program} {w w' : World} {ρ ρ' : Env} {σ σ' : Ms}

def sw (a b i : Nat) : Nat := bif Nat.beq i a then b else i
theorem sw_inj {a b i j : Nat} (hi : i ≠ b) (hj : j ≠ b) (h : sw a b i = sw a b j) : i = j := by
  unfold sw at h
  cases h1 : Nat.beq i a with
  | true =>
    have e1 := Nat.eq_of_beq_eq_true h1
    cases h2 : Nat.beq j a with
    | true => rw [e1, Nat.eq_of_beq_eq_true h2]
    | false => rw [h1, h2] at h; exact absurd h.symm hj
  | false =>
    cases h2 : Nat.beq j a with
    | true => rw [h1, h2] at h; exact absurd h hi
    | false => rw [h1, h2] at h; exact h

def Av.ren (a b : Nat) : Av → Av
  | .clo f id => .clo f (sw a b id)
  | .ptr id off => .ptr (sw a b id) off
  | .pw id off i => .pw (sw a b id) off i
  | .pv id off m i => .pv (sw a b id) off m i
  | .pe id es i k => .pe (sw a b id) es i k
  | .sl id es off n => .sl (sw a b id) es off n
  | .as id n => .as (sw a b id) n
  | x => x
def renL (a b : Nat) (l : List Av) : List Av := l.map (Av.ren a b)
def Sv.ren (a b : Nat) : Sv → Sv
  | .one l => .one (renL a b l)
  | .tup l => .tup (l.map (renL a b))
  | .any => .any
def Bk.ren (a b : Nat) : Bk → Bk
  | .var l t => .var (renL a b l) t
  | .arr l t => .arr (renL a b l) t
  | .row o e es n f => .row o e es n f
  | .dead => .dead
def renS (a b : Nat) (S : List (Nat × Sv)) : List (Nat × Sv) := S.map fun p => (p.1, p.2.ren a b)
def renH (a b : Nat) (H : List (Nat × Bk)) : List (Nat × Bk) := H.map fun p => (sw a b p.1, p.2.ren a b)

theorem ren_name (a b : Nat) (x : Av) : (x.ren a b).name = x.name.map (sw a b) := by cases x <;> rfl
theorem ren_plain {a b : Nat} {x : Av} (h : x.plain) : x.ren a b = x := by cases x <;> first | rfl | exact absurd h (by simp [Av.plain])

/-- what is named so stands where the other one stood -/
def Moved (a b : Nat) (ρ ρ' : Env) : Prop := ∀ id, id ≠ b → ρ'.b (sw a b id) = ρ.b id ∧ ρ'.o (sw a b id) = ρ.o id ∧ ρ'.c (sw a b id) = ρ.c id

theorem ren_val {a b : Nat} (hm : Moved a b ρ ρ') {x : Av} (hx : ∀ id, x.name = some id → id ≠ b) : (x.ren a b).val ρ' = x.val ρ ∧ (x.ren a b).cells ρ' = x.cells ρ := by
  cases x <;> first
    | exact ⟨rfl, rfl⟩
    | (have h := hm _ (hx _ rfl); simp only [Av.ren, Av.val, Av.cells, h.1, h.2.1, h.2.2, and_self])
theorem ren_cells {a b : Nat} (hm : Moved a b ρ ρ') : ∀ {l : List Av}, (∀ x ∈ l, ∀ id, x.name = some id → id ≠ b) → cellsL ρ' (renL a b l) = cellsL ρ l
  | [], _ => rfl
  | x :: l, h => by
    show cellsL ρ' (x.ren a b :: renL a b l) = _
    rw [cellsL_cons, cellsL_cons, (ren_val hm (h x List.mem_cons_self)).2, ren_cells hm fun y hy => h y (List.mem_cons_of_mem _ hy)]
theorem ren_denL {a b : Nat} (hm : Moved a b ρ ρ') {l : List Av} (h : ∀ x ∈ l, ∀ id, x.name = some id → id ≠ b) : denL ρ' (renL a b l) = denL ρ l := by
  match l, h with
  | [], _ => rfl
  | [x], h => exact (ren_val hm (h x List.mem_cons_self)).1
  | x :: y :: r, h =>
    show Value.agg (cellsL ρ' (renL a b (x :: y :: r))).toArray = Value.agg (cellsL ρ (x :: y :: r)).toArray
    rw [ren_cells hm h]
theorem ren_den {a b : Nat} (hm : Moved a b ρ ρ') {v : Sv} (h : v.all fun x => ∀ id, x.name = some id → id ≠ b) : (v.ren a b).den ρ' = v.den ρ := by
  cases v with
  | one l => exact ren_denL hm h
  | tup l =>
    show Value.tuple ((l.map (renL a b)).map (denL ρ')).toArray = Value.tuple (l.map (denL ρ)).toArray
    rw [List.map_map]
    congr 2
    exact List.map_congr_left fun m hm' => ren_denL hm (h m hm')
  | any => rfl
theorem ren_all {a b : Nat} {p q : Av → Prop} {v : Sv} (h : v.all p) (hpq : ∀ x, p x → q (x.ren a b)) : (v.ren a b).all q := by
  cases v with
  | one l =>
    intro y hy
    obtain ⟨x, hx, rfl⟩ := List.mem_map.1 hy
    exact hpq x (h x hx)
  | tup l =>
    intro m hm y hy
    obtain ⟨m0, hm0, rfl⟩ := List.mem_map.1 hm
    obtain ⟨x, hx, rfl⟩ := List.mem_map.1 hy
    exact hpq x (h m0 hm0 x hx)
  | any => trivial

theorem lookS_ren (a b : Nat) : ∀ (S : List (Nat × Sv)) (i : Nat), lookS (renS a b S) i = (lookS S i).ren a b
  | [], _ => rfl
  | (j, v) :: S, i => by
    show (bif Nat.beq j i then v.ren a b else lookS (renS a b S) i) = (bif Nat.beq j i then v else lookS S i).ren a b
    rw [lookS_ren a b S i]
    cases Nat.beq j i <;> rfl
theorem lookH_ren {a b : Nat} : ∀ {H : List (Nat × Bk)}, (∀ p ∈ H, p.1 ≠ b) → ∀ {i : Nat}, i ≠ b → lookH (renH a b H) (sw a b i) = (lookH H i).map (Bk.ren a b)
  | [], _, _, _ => rfl
  | (j, k) :: H, h, i, hi => by
    show (bif Nat.beq (sw a b j) (sw a b i) then some (k.ren a b) else lookH (renH a b H) (sw a b i)) = (bif Nat.beq j i then some k else lookH H i).map (Bk.ren a b)
    have hj : j ≠ b := h _ List.mem_cons_self
    rw [lookH_ren (fun p hp => h p (List.mem_cons_of_mem _ hp)) hi]
    cases h1 : Nat.beq j i with
    | true =>
      have e := Nat.eq_of_beq_eq_true h1
      subst e
      rw [Nat.beq_refl]; rfl
    | false =>
      have : Nat.beq (sw a b j) (sw a b i) = false := by
        cases h2 : Nat.beq (sw a b j) (sw a b i) with
        | false => rfl
        | true =>
          have e := sw_inj hj hi (Nat.eq_of_beq_eq_true h2)
          subst e
          rw [Nat.beq_refl] at h1; cases h1
      rw [this]; rfl
theorem lookH_ren' {a b : Nat} {H : List (Nat × Bk)} (h : ∀ p ∈ H, p.1 ≠ b) {j : Nat} {k' : Bk} (hk : lookH (renH a b H) j = some k') : ∃ i k, i ≠ b ∧ j = sw a b i ∧ lookH H i = some k ∧ k' = k.ren a b := by
  have hmem := lookH_mem hk
  obtain ⟨p, hp, he⟩ := List.mem_map.1 hmem
  simp only [Prod.mk.injEq] at he
  have hpb := h p hp
  obtain ⟨rfl, -⟩ := he
  rw [lookH_ren h hpb] at hk
  obtain ⟨k, h1, h2⟩ := Option.map_eq_some_iff.1 hk
  exact ⟨p.1, k, hpb, rfl, h1, h2.symm⟩

theorem goes_name {nt : Nat} {w0 : Base} {k : List Fr} {o : Out} {S : List (Nat × Sv)} {H : List (Nat × Bk)} {Z : List Fr → Out → Ms → Prop} {a b : Nat} (ha : a < 1000) (hb : b < 1000) (hH : ∀ p ∈ H, p.1 ≠ b)
    (g : Goes P nt w0 k o (kn (renS a b S) (renH a b H)) Z) : Goes P nt w0 k o (kn S H) Z := by
  intro Q hQ ρ act w hr
  let ρ' : Env := ⟨upd ρ.b b (ρ.b a), upd ρ.o b (ρ.o a), upd ρ.c b (ρ.c a)⟩
  have hm : Moved a b ρ ρ' := by
    intro id hid
    unfold sw
    cases h1 : Nat.beq id a with
    | true =>
      have e := Nat.eq_of_beq_eq_true h1
      subst e
      simp only [cond_true, ρ', upd_same, and_self]
    | false =>
      simp only [cond_false, ρ', upd_ne _ _ hid, and_self]
  have hdomb : (lookH H b).isSome = false := by
    cases hx : lookH H b with
    | none => rfl
    | some k => exact absurd rfl (hH _ (lookH_mem hx))
  have hav : ∀ x, AvOK (kn S H) x → ∀ id, x.name = some id → id ≠ b := by
    intro x hx id hid e
    subst e
    unfold AvOK at hx
    rw [hid] at hx
    have h2 : (lookH H id).isSome = true := hx.2
    rw [hdomb] at h2; cases h2
  have hok : ∀ x, AvOK (kn S H) x → AvOK (kn (renS a b S) (renH a b H)) (x.ren a b) := by
    intro x hx
    have hx0 := hx
    unfold AvOK at hx ⊢
    rw [ren_name]
    cases hn : x.name with
    | none =>
      rw [hn] at hx
      show (x.ren a b).plain
      rw [ren_plain hx]; exact hx
    | some id =>
      rw [hn] at hx
      have hs : (lookH (renH a b H) (sw a b id)).isSome = true := by
        rw [lookH_ren hH (hav x hx0 id hn)]
        have h2 : (lookH H id).isSome = true := hx.2
        simpa using h2
      refine ⟨?_, hs⟩
      show (Nat.ble 1000 (sw a b id) || (lookH (renH a b H) (sw a b id)).isSome) = true
      rw [hs, Bool.or_true]
  refine g Q hQ ρ' act w ⟨hr.size, hr.defers, fun i hi => ?_, hr.below, fun j k' hk => ?_, fun i j ki kj hi hj h1 h2 he => ?_, fun i => ?_, fun j k' hk => ?_, fun j hj => ?_, fun i hi => ?_⟩
  · show lookS (renS a b S) i = .any ∨ act.eval (.tmp i) = (lookS (renS a b S) i).den ρ'
    rw [lookS_ren]
    rcases hr.slots i hi with h1 | h1
    · left
      have h1' : lookS S i = .any := h1
      rw [h1']; rfl
    · right
      rw [h1]
      exact (ren_den hm (Sv.all_mono (fun x hx => hav x hx) (hr.okS i))).symm
  · obtain ⟨i, k0, hib, rfl, h1, rfl⟩ := lookH_ren' hH hk
    have h2 := hr.blocks i k0 h1
    obtain ⟨e1, e2, e3⟩ := hm i hib
    have h3 := hr.okH i k0 h1
    cases k0 with
    | var l t => exact ⟨by rw [e1]; exact h2.1, by rw [e1, ren_cells hm fun x hx => hav x (h3 x hx)]; exact h2.2⟩
    | arr l t =>
      obtain ⟨q1, q2, q3, cur, q4, q5, q6⟩ := h2
      have hcl := ren_cells hm (fun x hx => hav x (h3 x hx))
      have hsz : sizeL (renL a b l) = sizeL l := by rw [← cellsL_length ρ', hcl, cellsL_length]
      exact ⟨by rw [e3, hsz]; exact q1, by rw [e3]; exact q2, by rw [e1]; exact q3, cur, by rw [e1]; exact q4, by rw [e3]; exact q5, by rw [hsz, hcl]; exact q6⟩
    | row ow e es n f =>
      cases ow with
      | true =>
        obtain ⟨q1, q2, q3, q4, q5, cur, q6, q7, q8⟩ := h2
        exact ⟨q1, by rw [e3]; exact q2, by rw [e3]; exact q3, by rw [e1]; exact q4, by rw [e2]; exact q5, cur, by rw [e1]; exact q6, by rw [e3]; exact q7, q8⟩
      | false =>
        obtain ⟨q1, q2, q3, q4, q5, q6⟩ := h2
        exact ⟨q1, by rw [e3]; exact q2, by rw [e3]; exact q3, by rw [e1]; exact q4, by rw [e1]; exact q5, by rw [e1, e2]; exact q6⟩
    | dead => trivial
  · obtain ⟨i0, k0, hib, rfl, g1, rfl⟩ := lookH_ren' hH hi
    obtain ⟨j0, k1, hjb, rfl, g2, rfl⟩ := lookH_ren' hH hj
    have o1 : k0.own = true := by cases k0 <;> exact h1
    have o2 : k1.own = true := by cases k1 <;> exact h2
    rw [(hm i0 hib).1, (hm j0 hjb).1] at he
    rw [hr.inj i0 j0 k0 k1 g1 g2 o1 o2 he]
  · show (lookS (renS a b S) i).all _
    rw [lookS_ren]
    exact ren_all (hr.okS i) hok
  · obtain ⟨i, k0, hib, rfl, h1, rfl⟩ := lookH_ren' hH hk
    have h3 := hr.okH i k0 h1
    cases k0 with
    | var l t =>
      intro y hy
      obtain ⟨x, hx, rfl⟩ := List.mem_map.1 hy
      exact hok x (h3 x hx)
    | arr l t =>
      intro y hy
      obtain ⟨x, hx, rfl⟩ := List.mem_map.1 hy
      exact hok x (h3 x hx)
    | row _ _ _ _ _ => trivial
    | dead => trivial
  · show (Nat.ble 1000 j || (lookH (renH a b H) j).isSome) = true
    have : (lookH (renH a b H) j).isSome = true := hj
    rw [this, Bool.or_true]
  · have hib : i ≠ b := by omega
    obtain ⟨_, h2, h3, h4⟩ := hr.names i hi
    refine ⟨?_, by simp only [ρ', upd_ne _ _ hib]; exact h2, by simp only [ρ', upd_ne _ _ hib]; exact h3, by simp only [ρ', upd_ne _ _ hib]; exact h4⟩
    show (Nat.ble 1000 i || (lookH (renH a b H) i).isSome) = true
    rw [Nat.ble_eq_true_of_le hi, Bool.true_or]

end M
end Go.Proofs.Ytmjdmhelmgcanaa
