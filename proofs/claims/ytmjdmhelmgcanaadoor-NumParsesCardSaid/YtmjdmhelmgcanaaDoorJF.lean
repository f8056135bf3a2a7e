/- Joined out of smaller texts: Mo, Mp, Mq, Mr, ByA, Shf, By, ByB, Tac, Tb, MD, Drw, Nam, RO, Car. -/
import Derived.Test.YtmjdmhelmgcanaaDoorJC
import Derived.Test.YtmjdmhelmgcanaaDoorJD
import Derived.OwnWalk
import Derived.Test.YtmjdmhelmgcanaaDoorJE
/- What the machine knows of this program: its types, how its values are compared and built. -/
namespace Go.Proofs.YtmjdmhelmgcanaaDoor
namespace M
set_option linter.unusedSimpArgs false
set_option linter.unusedVariables false
open Go.RowKit

theorem words4 (x : Nat) : words x 4 = [.int .u64 (lm x 0), .int .u64 (lm x 1), .int .u64 (lm x 2), .int .u64 (lm x 3)] := by simp [words]
theorem den_num (ρ : Env) (x : Nat) : (Sv.one [Av.big 4 x]).den ρ = V x := by simp [Sv.den, denL, Av.val, words4, V, V4]
theorem denL_num (ρ : Env) (x : Nat) : denL ρ [Av.big 4 x] = V x := den_num ρ x

/-- two numbers compared at any depth -/
theorem eqNum (d : Nat) {x y : Nat} (hx : x < TOP) (hy : y < TOP) {b : Bool} (h : x = y ↔ b = true) (w : World) :
    (Op.equalIn (d + 2) 24 (.agg (words x 4).toArray) (.agg (words y 4).toArray)).run Tryd.prog w = .ok b w := by
  rw [words4, words4]
  have := eq28 d (lm x 0) (lm x 1) (lm x 2) (lm x 3) (lm y 0) (lm y 1) (lm y 2) (lm y 3) w
  have hb : decide ((lm x 0 : Int) = lm y 0 ∧ (lm x 1 : Int) = lm y 1 ∧ (lm x 2 : Int) = lm y 2 ∧ (lm x 3 : Int) = lm y 3) = b := by
    rw [Bool.eq_iff_iff, decide_eq_true_iff]
    exact (lm_eq_iff hx hy).trans h
  rw [hb] at this
  exact this

/-- a byte's number -/
def u8A : Av → Option Int
  | .lit .u8 n => some n
  | .int .u8 n => some n
  | _ => none

def eqTab : TypeId → List Av → List Av → Option Prop
  | 24, [.big 4 x], [.big 4 y] => some (x = y)
  | _, _, _ => none

def sizeTab : TypeId → Option Nat
  | 3 => some 1
  | 4 => some 1
  | 5 => some 1
  | 22 => some 1
  | 24 => some 4
  | 26 => some 1
  | 42 => some 1
  | 44 => some 1
  | 70 => some 8
  | _ => none
def aggTab : TypeId → Bool
  | 24 => true
  | 70 => true
  | _ => false
def zeroTab : TypeId → Option (List Av)
  | 3 => some [.lit .i64 0]
  | 24 => some [.big 4 0]
  | 70 => some [.big 8 0]
  | _ => none
def fldTab : TypeId → Nat → Option (Nat × TypeId) := fun _ _ => none
def isU8 : Sv → Bool
  | .one [.lit .u8 _] => true
  | .one [.int .u8 _] => true
  | _ => false
def buildTab : TypeId → List (Nat × Sv) → Option (List Av)
  | 24, [] => some [.big 4 0]
  | 24, [(0, .one [.lit .u64 n])] => bif decide (0 ≤ n ∧ n < 18446744073709551616) then some [.big 4 n.toNat] else none
  | 70, [] => some [.big 8 0]
  | _, _ => none
def convTab : TypeId → TypeId → IntKind → Option IntKind
  | 22, 5, .u64 => some .u8
  | 5, 22, .u8 => some .u64
  | 21, 22, .i32 => some .u64
  | 3, 54, .i64 => some .u64
  | 3, 5, .i64 => some .u8
  | _, _, _ => none
def arrTab : TypeId → Option (Nat × Nat)
  | 24 => some (4, 1)
  | 70 => some (8, 1)
  | _ => none
def slcTab : TypeId → Option (TypeId × Nat × Nat × List Av)
  | 42 => some (5, 1, 1, [.lit .u8 0])
  | 44 => some (22, 1, 8, [.int .u64 0])
  | _ => none

theorem lm_zero (i : Nat) : lm 0 i = 0 := by unfold lm; simp

theorem tab_size (t : TypeId) (n : Nat) (h : sizeTab t = some n) (w : World) : (sizeOf t).run Tryd.prog w = .ok n w := by
  unfold sizeTab at h
  split at h <;> first
    | (simp only [Option.some.injEq] at h; subst h; simp [go_sem])
    | cases h
theorem tab_agg (t : TypeId) (n : Nat) (h : sizeTab t = some n) (w : World) : (isAgg t).run Tryd.prog w = .ok (aggTab t) w := by
  unfold sizeTab at h
  split at h <;> first
    | (simp [go_sem, aggTab]; done)
    | cases h

theorem tab_zero (t : TypeId) (l : List Av) (h : zeroTab t = some l) : (∀ a ∈ l, a.plain) ∧ ∀ w, (zeroValue t).run Tryd.prog w = .ok (denL ρ0 l) w := by
  unfold zeroTab at h
  split at h
  all_goals first
    | (simp only [reduceCtorEq] at h; done)
    | skip
  all_goals
    simp only [Option.some.injEq] at h
    subst h
    refine ⟨?_, fun w => ?_⟩
    · simp [Av.plain, pow64]
    · simp [go_sem, denL, cellsL, Av.cells, Av.val, words, vecs, lm_zero]

theorem tab_fldA (s : TypeId) (f k : Nat) (t : TypeId) (h : fldTab s f = some (k, t)) (b off : Nat) (w : World) :
    (Instr.fieldAt s (.pointer (some ⟨b, off, none⟩)) f).run Tryd.prog w = .ok (.pointer (some ⟨b, off + k, none⟩)) w := by
  cases h

theorem tab_fld (s : TypeId) (f k : Nat) (t : TypeId) (n : Nat) (h : fldTab s f = some (k, t)) (hn : sizeTab t = some n) (cs : Array Value) (w : World) (hlt : k + n ≤ cs.size) :
    (Instr.field s (.agg cs) f).run Tryd.prog w = .ok (if aggTab t then .agg (cs.extract k (k + n)) else cs.getD k undef) w := by
  cases h

theorem tab_build (t : TypeId) (ps : List (Nat × Sv)) (l : List Av) (h : buildTab t ps = some l) : (∀ a ∈ l, a.plain ∨ ∃ p ∈ ps, ∃ m, p.2 = .one m ∧ a ∈ m) ∧
    ∀ ρ w, (Instr.build t (ps.map fun p => (p.1, p.2.den ρ)).toArray).run Tryd.prog w = .ok (denL ρ l) w := by
  unfold buildTab at h
  split at h
  all_goals first
    | (simp only [reduceCtorEq] at h; done)
    | skip
  · simp only [Option.some.injEq] at h
    subst h
    exact ⟨by simp [Av.plain, pow64], fun ρ w => by simp [Instr.build, Instr.fill, go_sem, denL, Av.val, words, lm_zero]⟩
  · rename_i n
    cases hb : decide (0 ≤ n ∧ n < 18446744073709551616) with
    | false => rw [hb] at h; cases h
    | true =>
      rw [hb] at h
      simp only [cond_true, Option.some.injEq] at h
      subst h
      obtain ⟨h0, h1⟩ := of_decide_eq_true hb
      obtain ⟨k, rfl⟩ := Int.eq_ofNat_of_zero_le h0
      have hk : k < 18446744073709551616 := by omega
      have e0 : lm k 0 = k := by rw [lm0]; omega
      have e1 : lm k 1 = 0 := by rw [lm1]; omega
      have e2 : lm k 2 = 0 := by rw [lm2]; omega
      have e3 : lm k 3 = 0 := by rw [lm3]; omega
      refine ⟨?_, fun ρ w => ?_⟩
      · intro x hx
        simp only [List.mem_singleton] at hx
        subst hx
        left
        show (k : Int).toNat < pow64 4
        rw [pow64_4, Int.toNat_natCast, top_eq]
        omega
      · simp [Instr.build, Instr.fill, go_sem, denL, words, Sv.den, Av.val, Value.cells, e0, e1, e2, e3]
  · simp only [Option.some.injEq] at h
    subst h
    exact ⟨by simp [Av.plain, pow64], fun ρ w => by simp [Instr.build, Instr.fill, go_sem, denL, Av.val, words, lm_zero]⟩

theorem eqGuard28 (op : BinOp) (x y : Operand) (xs ys : Array Value) (w : World) : (eqGuard op 24 x y (.agg xs) (.agg ys)).run Tryd.prog w = .ok () w := by simp [go_sem]

theorem u8A_val {x : Av} {n : Int} (h : u8A x = some n) (ρ : Env) : x.val ρ = .int .u8 n ∧ x.cells ρ = [.int .u8 n] := by
  unfold u8A at h
  split at h <;> cases h <;> exact ⟨rfl, rfl⟩

theorem tab_eq (t : TypeId) (l m : List Av) (p : Prop) (h : eqTab t l m = some p) : isAggL l = true ∧ isAggL m = true ∧ ∀ ρ, (∀ n x, Av.big n x ∈ l → x < pow64 n) → (∀ n x, Av.big n x ∈ m → x < pow64 n) →
    ∀ b, (p ↔ b = true) → ∀ w x y,
    (do eqGuard .eql t x y (denL ρ l) (denL ρ m); binOp .eql t (denL ρ l) (denL ρ m)).run Tryd.prog w = .ok (.bool b) w ∧
    (do eqGuard .neq t x y (denL ρ l) (denL ρ m); binOp .neq t (denL ρ l) (denL ρ m)).run Tryd.prog w = .ok (.bool (!b)) w := by
  unfold eqTab at h
  split at h
  all_goals first
    | (simp only [reduceCtorEq] at h; done)
    | skip
  · rename_i a c
    simp only [Option.some.injEq] at h
    subst h
    refine ⟨rfl, rfl, fun ρ hl hm b hb w x y => ?_⟩
    have ha : a < TOP := by rw [← pow64_4]; exact hl 4 a (by simp)
    have hc : c < TOP := by rw [← pow64_4]; exact hm 4 c (by simp)
    have := eqNum 9998 ha hc hb w
    simp only [denL, Av.val]
    constructor <;> simp [go_sem, this]

theorem tab_conv (s d : TypeId) (k k' : IntKind) (h : convTab s d k = some k') (n : Int) (w : World) : (convert s d (.int k n)).run Tryd.prog w = .ok (.int k' (k'.wrap n)) w := by
  unfold convTab at h
  split at h
  all_goals first
    | cases h; done
    | (cases h; simp [go_sem])

theorem tab_arr (t : TypeId) (len es : Nat) (h : arrTab t = some (len, es)) : ∃ e, Tryd.prog.underlying t = some (.array len e) ∧ (∀ w, (sizeOf e).run Tryd.prog w = .ok es w) ∧ (∀ w, (isAgg e).run Tryd.prog w = .ok (!Nat.beq es 1) w) ∧ 1 < len := by
  unfold arrTab at h
  split at h
  · cases h; exact ⟨_, Tryd.underlying24, fun w => by simp [go_sem], fun w => by simp [go_sem], by omega⟩
  · cases h; exact ⟨_, Tryd.underlying70, fun w => by simp [go_sem], fun w => by simp [go_sem], by omega⟩
  · cases h

theorem inf5 : (Tryd.prog.info? 5).map (fun i => (i.zero, i.size, i.bytes)) = some (some (.int .u8 0), 1, 1) := by kernel_rfl
theorem inf26 : (Tryd.prog.info? 22).map (fun i => (i.zero, i.size, i.bytes)) = some (some (.int .u64 0), 1, 8) := by kernel_rfl


theorem tab_slc (t e : TypeId) (es b : Nat) (z : List Av) (h : slcTab t = some (e, es, b, z)) : (0 < es ∧ sizeL z = es ∧ (∀ a ∈ z, a.plain) ∧ 0 < b) ∧
    Tryd.prog.underlying t = some (.slice e) ∧ ∃ i zv, Tryd.prog.info? e = some i ∧ i.size = es ∧ i.bytes = b ∧ i.zero = some zv ∧ zv.cells = (cellsL ρ0 z).toArray := by
  have key : ∀ (e : TypeId) (es b : Nat) (z : List Av) (zv : Value), (Tryd.prog.info? e).map (fun i => (i.zero, i.size, i.bytes)) = some (some zv, es, b) → zv.cells = (cellsL ρ0 z).toArray →
      ∃ i zv, Tryd.prog.info? e = some i ∧ i.size = es ∧ i.bytes = b ∧ i.zero = some zv ∧ zv.cells = (cellsL ρ0 z).toArray := by
    intro e es b z zv h hz
    obtain ⟨i, hi, h⟩ := Option.map_eq_some_iff.1 h
    simp only [Prod.mk.injEq] at h
    exact ⟨i, zv, hi, h.2.1, h.2.2, h.1, hz⟩
  unfold slcTab at h
  split at h
  · cases h
    exact ⟨⟨by omega, rfl, by simp [Av.plain], by omega⟩, Tryd.underlying42, key _ _ _ _ _ inf5 (by simp [cellsL, Av.cells, Av.val, Value.cells])⟩
  · cases h
    exact ⟨⟨by omega, rfl, by simp [Av.plain], by omega⟩, Tryd.underlying44, key _ _ _ _ _ inf26 (by simp [cellsL, Av.cells, Av.val, Value.cells])⟩
  · cases h

end M
end Go.Proofs.YtmjdmhelmgcanaaDoor

/- What calls come to, as the machine knows it: tables of contracts. -/
namespace Go.Proofs.YtmjdmhelmgcanaaDoor
namespace M
open Go.RowKit

abbrev Con := List RArg → Option (List Outc)
structure Entry where
  f : Nat
  cls : Nat
  con : Con

def findE (f : Nat) : List Entry → Option Entry
  | [] => none
  | e :: r => bif Nat.beq e.f f then some e else findE f r

/-- what a contract names -/
def ConWf (c : Con) : Prop := ∀ args outs, c args = some outs → (∀ A ∈ args, ∀ p ∈ A, (p.1.name = none → p.1.plain) ∧ ∀ k, p.2 = some k → k.rowsOK ∧ k.loose) → ∀ (i : Nat) oc, outs[i]? = some oc → oc.c → ∀ d,
    (∀ d', (oc.e d).newId = some d' → d' = d) ∧ (∀ id, (oc.e d).written = some id → ∃ k, inArgs args id k ∧ k.own = true) ∧ (∀ id k, (oc.e d).bk = some (id, k) → k.own = true ∧ k.named Av.plain ∧ k.rowsOK) ∧
    (oc.r d).all fun a => a.plain ∨ (a.name = some d ∧ (oc.e d).newId = some d ∧ ((oc.e d).bk).isSome = true) ∨ ∃ id k, a.name = some id ∧ inArgs args id k
/-- what a contract says of the call -/
def ConRun (f : Nat) (c : Con) : Prop := ∀ args outs, c args = some outs → ∀ (i : Nat) oc, outs[i]? = some oc → oc.c → ∀ ρ w (B : Nat → Prop) d, (∀ b, w.heap.size ≤ b → B b) → (∀ A ∈ args, ∀ p ∈ A, ArgOK ρ w B p) → (∀ A ∈ args, ∀ p ∈ A, p.1.name ≠ some d) →
    (∀ i j ki kj, inArgs args i ki → inArgs args j kj → ki.own = true → kj.own = true → ρ.b i = ρ.b j → i = j) →
    (callFunc f (args.map (argV ρ)).toArray).run Tryd.prog w = .ok (.enter f (args.map (argV ρ)).toArray) w ∧
    Calls Tryd.prog f (args.map (argV ρ)).toArray w fun e w' => ∃ ρ', EffPost ρ ρ' w w' B (oc.e d) ∧ e = .returned ((oc.r d).den ρ')
structure EOK (e : Entry) : Prop where
  wf : ConWf e.con
  run : ConRun e.f e.con
def TabOK (tab : List Entry) : Prop := ∀ e ∈ tab, EOK e

theorem TabOK.nil : TabOK [] := fun p hp => by cases hp
theorem TabOK.cons {e : Entry} {t : List Entry} (h : EOK e) (ht : TabOK t) : TabOK (e :: t) := fun p hp => by
  rcases List.mem_cons.1 hp with rfl | hp
  · exact h
  · exact ht p hp

theorem findE_ok {tab : List Entry} (ht : TabOK tab) {f : Nat} {e : Entry} (h : findE f tab = some e) : EOK e ∧ e.f = f := by
  induction tab with
  | nil => cases h
  | cons x r ih =>
    simp only [findE] at h
    cases hb : Nat.beq x.f f with
    | true =>
      rw [hb] at h
      cases h
      exact ⟨ht _ List.mem_cons_self, Nat.eq_of_beq_eq_true hb⟩
    | false =>
      rw [hb] at h
      exact ih (fun p hp => ht p (List.mem_cons_of_mem _ hp)) h

def ctx (tab : List Entry) (nt : Nat) : Ctx where
  nt := nt
  size := sizeTab
  agg := aggTab
  boolT := fun t => Nat.beq t 4
  strT := fun t => Nat.beq t 9
  b2s := fun s d => Nat.beq s 42 && Nat.beq d 9
  zero := zeroTab
  fld := fldTab
  build := buildTab
  eqT := eqTab
  conv := convTab
  arr := arrTab
  slc := slcTab
  con := fun f args => (findE f tab).bind fun e => e.con args
  cls := fun f => match findE f tab with
    | some e => e.cls
    | none => 0

theorem ctx_ok {tab : List Entry} (ht : TabOK tab) (nt : Nat) {w0 : Base} : CtxOK Tryd.prog (ctx tab nt) w0 where
  zero := fun t l h => (tab_zero t l h).1
  build := fun t ps l h => (tab_build t ps l h).1
  slc := fun t e es b z h => (tab_slc t e es b z h).1
  con := fun f args outs h => by
    obtain ⟨e, he, h⟩ := Option.bind_eq_some_iff.1 h
    exact (findE_ok ht he).1.wf args outs h
  size := tab_size
  agg := tab_agg
  boolT := fun t h => by
    have : t = 4 := Nat.eq_of_beq_eq_true h
    subst this
    exact Tryd.underlying4
  strT := fun t h => by
    have : t = 9 := Nat.eq_of_beq_eq_true h
    subst this
    exact Tryd.underlying9
  b2s := fun s d h a n c w => by
    obtain ⟨h1, h2⟩ := Bool.and_eq_true_iff.1 h
    have e1 : s = 42 := Nat.eq_of_beq_eq_true h1
    have e2 : d = 9 := Nat.eq_of_beq_eq_true h2
    subst e1 e2
    exact run_convert_bytes_string w _ _ 5 a n c Tryd.underlying42 Tryd.underlying5 Tryd.underlying9
  zero_run := fun t l h => (tab_zero t l h).2
  fldA := tab_fldA
  fldV := tab_fld
  build_run := fun t ps l h => (tab_build t ps l h).2
  eq := tab_eq
  conv := tab_conv
  arr := tab_arr
  slc_run := fun t e es b z h => (tab_slc t e es b z h).2
  con_run := fun f args outs h => by
    obtain ⟨e, he, h'⟩ := Option.bind_eq_some_iff.1 h
    obtain ⟨h1, h2⟩ := findE_ok ht he
    subst h2
    exact fun i oc hi hc ρ w _ B d => h1.run args outs h' i oc hi hc ρ w B d

/-! ## Calls that take and give numbers -/

abbrev PCon := List (List Av) → Option (List (Prop × Sv))
def pcon (k : PCon) : Con := fun args => (k (args.map fun A => A.map (·.1))).map fun l => l.map fun p => ⟨p.1, fun _ => p.2, fun _ => .nop⟩

/-- what is below is as it was: nothing has been done to the names -/
theorem postBelow {ρ : Env} {w w' : World} {B : Nat → Prop} (h : Below w.heap.size w w') : EffPost ρ ρ w w' B .nop :=
  ⟨h.os, h.tape, h.output, h.size, fun _ _ => ⟨rfl, rfl, rfl⟩, fun b hb _ => h.block b hb, (fun _ _ h => by cases h), (fun _ h => by cases h)⟩

theorem pcon_ok {f : Nat} (hcall : ∀ args w, (callFunc f args).run Tryd.prog w = .ok (.enter f args) w) {k : PCon} {cls : Nat}
    (h : ∀ args l, k args = some l → (∀ A ∈ args, ∀ a ∈ A, a.name = none → a.plain) → ∀ p ∈ l, p.1 → p.2.all Av.plain ∧
      ∀ ρ w, Calls Tryd.prog f (args.map (denL ρ)).toArray w fun e w' => Below w.heap.size w w' ∧ e = .returned (p.2.den ρ)) : EOK ⟨f, cls, pcon k⟩ := by
  have key : ∀ args outs, pcon k args = some outs → ∀ (i : Nat) oc, outs[i]? = some oc → ∃ l p, k (args.map fun A => A.map (·.1)) = some l ∧ p ∈ l ∧ oc = ⟨p.1, fun _ => p.2, fun _ => .nop⟩ := by
    intro args outs ho i oc hi
    obtain ⟨l, hl, rfl⟩ := Option.map_eq_some_iff.1 ho
    rw [List.getElem?_map] at hi
    obtain ⟨p, hp, rfl⟩ := Option.map_eq_some_iff.1 hi
    exact ⟨l, p, hl, List.mem_of_getElem? hp, rfl⟩
  have pl : ∀ (args : List RArg), (∀ A ∈ args, ∀ p ∈ A, (p.1.name = none → p.1.plain)) → ∀ A ∈ args.map fun A => A.map (·.1), ∀ a ∈ A, a.name = none → a.plain := by
    intro args hargs A hA a ha
    obtain ⟨A', hA', rfl⟩ := List.mem_map.1 hA
    obtain ⟨q, hq, rfl⟩ := List.mem_map.1 ha
    exact hargs A' hA' q hq
  constructor
  · intro args outs ho hargs i oc hi hc d
    obtain ⟨l, p, hl, hp, rfl⟩ := key args outs ho i oc hi
    have h1 := (h _ l hl (pl args fun A hA p hp => (hargs A hA p hp).1) p hp hc).1
    exact ⟨(fun _ h => by cases h), (fun _ h => by cases h), (fun _ _ h => by cases h), Sv.all_mono (fun _ h => .inl h) h1⟩
  · intro args outs ho i oc hi hc ρ w B d hB hargs hd _
    obtain ⟨l, p, hl, hp, rfl⟩ := key args outs ho i oc hi
    have h2 := (h _ l hl (pl args fun A hA p hp => (hargs A hA p hp).1) p hp hc).2 ρ w
    refine ⟨hcall _ _, ?_⟩
    have e : args.map (argV ρ) = (args.map fun A => A.map (·.1)).map (denL ρ) := by
      rw [List.map_map]; rfl
    rw [e]
    refine h2.mono ?_
    rintro e' w' ⟨hb, rfl⟩
    exact ⟨ρ, postBelow hb, rfl⟩

abbrev N (x : Nat) : List Av := [.big 4 x]
abbrev E (n : Int) : List Av := [.lit .i64 n]
abbrev B (b : Bool) : List Av := [.bool b]

def k0 (g : List (Prop × Sv)) : PCon
  | [] => some g
  | _ => none
def k1 (g : Nat → List (Prop × Sv)) : PCon
  | [[.big 4 x]] => some (g x)
  | _ => none
def k2 (g : Nat → Nat → List (Prop × Sv)) : PCon
  | [[.big 4 x], [.big 4 y]] => some (g x y)
  | _ => none
def k3 (g : Nat → Nat → Nat → List (Prop × Sv)) : PCon
  | [[.big 4 x], [.big 4 y], [.big 4 z]] => some (g x y z)
  | _ => none
def k4 (g : Nat → Nat → Nat → Nat → List (Prop × Sv)) : PCon
  | [[.big 4 x], [.big 4 y], [.big 4 z], [.big 4 u]] => some (g x y z u)
  | _ => none

theorem big_lt {args : List (List Av)} (h : ∀ A ∈ args, ∀ a ∈ A, a.name = none → a.plain) {x : Nat} (hx : N x ∈ args) : x < TOP := by
  rw [← pow64_4]
  exact h _ hx (.big 4 x) List.mem_cons_self rfl

/-- what a call owes: each way, if it is taken, has plain values, and the call ends so -/
def Owes (f : Nat) (args : List (List Av)) (l : List (Prop × Sv)) : Prop :=
  ∀ p ∈ l, p.1 → p.2.all Av.plain ∧ ∀ ρ w, Calls Tryd.prog f (args.map (denL ρ)).toArray w fun e w' => Below w.heap.size w w' ∧ e = .returned (p.2.den ρ)

theorem k0_ok {f : Nat} (hcall : ∀ args w, (callFunc f args).run Tryd.prog w = .ok (.enter f args) w) {cls : Nat} {g : List (Prop × Sv)} (h : Owes f [] g) : EOK ⟨f, cls, pcon (k0 g)⟩ := by
  refine pcon_ok hcall fun args l hl ha p hp => ?_
  unfold k0 at hl
  split at hl
  · cases hl; exact h p hp
  · cases hl
theorem k1_ok {f : Nat} (hcall : ∀ args w, (callFunc f args).run Tryd.prog w = .ok (.enter f args) w) {cls : Nat} {g : Nat → List (Prop × Sv)} (h : ∀ x, x < TOP → Owes f [N x] (g x)) : EOK ⟨f, cls, pcon (k1 g)⟩ := by
  refine pcon_ok hcall fun args l hl ha p hp => ?_
  unfold k1 at hl
  split at hl
  · cases hl; exact h _ (big_lt ha (by simp)) p hp
  · cases hl
theorem k2_ok {f : Nat} (hcall : ∀ args w, (callFunc f args).run Tryd.prog w = .ok (.enter f args) w) {cls : Nat} {g : Nat → Nat → List (Prop × Sv)} (h : ∀ x y, x < TOP → y < TOP → Owes f [N x, N y] (g x y)) : EOK ⟨f, cls, pcon (k2 g)⟩ := by
  refine pcon_ok hcall fun args l hl ha p hp => ?_
  unfold k2 at hl
  split at hl
  · cases hl; exact h _ _ (big_lt ha (by simp)) (big_lt ha (by simp)) p hp
  · cases hl
theorem k3_ok {f : Nat} (hcall : ∀ args w, (callFunc f args).run Tryd.prog w = .ok (.enter f args) w) {cls : Nat} {g : Nat → Nat → Nat → List (Prop × Sv)} (h : ∀ x y z, x < TOP → y < TOP → z < TOP → Owes f [N x, N y, N z] (g x y z)) : EOK ⟨f, cls, pcon (k3 g)⟩ := by
  refine pcon_ok hcall fun args l hl ha p hp => ?_
  unfold k3 at hl
  split at hl
  · cases hl; exact h _ _ _ (big_lt ha (by simp)) (big_lt ha (by simp)) (big_lt ha (by simp)) p hp
  · cases hl
theorem k4_ok {f : Nat} (hcall : ∀ args w, (callFunc f args).run Tryd.prog w = .ok (.enter f args) w) {cls : Nat} {g : Nat → Nat → Nat → Nat → List (Prop × Sv)} (h : ∀ x y z u, x < TOP → y < TOP → z < TOP → u < TOP → Owes f [N x, N y, N z, N u] (g x y z u)) : EOK ⟨f, cls, pcon (k4 g)⟩ := by
  refine pcon_ok hcall fun args l hl ha p hp => ?_
  unfold k4 at hl
  split at hl
  · cases hl; exact h _ _ _ _ (big_lt ha (by simp)) (big_lt ha (by simp)) (big_lt ha (by simp)) (big_lt ha (by simp)) p hp
  · cases hl

theorem N_plain {x : Nat} (h : x < TOP) : ∀ a ∈ N x, a.plain := by
  intro a ha
  simp only [List.mem_singleton] at ha
  subst ha
  show x < pow64 4
  rw [pow64_4]
  exact h
theorem plain2 {x : Nat} {l : List Av} (h : x < TOP) (hl : ∀ a ∈ l, a.plain) : (Sv.tup [N x, l]).all Av.plain := by
  intro m hm
  simp only [List.mem_cons, List.not_mem_nil, or_false] at hm
  rcases hm with rfl | rfl
  · exact N_plain h
  · exact hl
theorem E_plain (n : Int) : ∀ a ∈ E n, a.plain := fun a ha => by simp only [List.mem_singleton] at ha; subst ha; trivial
theorem B_plain (b : Bool) : ∀ a ∈ B b, a.plain := fun a ha => by simp only [List.mem_singleton] at ha; subst ha; trivial
theorem int_plain (k : IntKind) (n : Int) : ∀ a ∈ [Av.int k n], a.plain := fun a ha => by simp only [List.mem_singleton] at ha; subst ha; trivial

end M
end Go.Proofs.YtmjdmhelmgcanaaDoor

/- The machine at work: where code stands, rows of words, contracts out of walks. -/
namespace Go.Proofs.YtmjdmhelmgcanaaDoor
namespace M
open Go.RowKit

def bodyOf (fn : Func) : Code := fn.body.getD .skip

/-- what is to be done from a block on -/
def kAt (id : Nat) : Code → List Fr → Option (List Fr)
  | .block i x, k => bif Nat.beq i id then some (.code (.block i x) :: k) else kAt id x (.endb i :: k)
  | .seq x y, k => match kAt id x (.code y :: k) with
    | some r => some r
    | none => kAt id y k
  | .cond _ x y, k => match kAt id x k with
    | some r => some r
    | none => kAt id y k
  | _, _ => none
def kOf (id : Nat) (c : Code) : List Fr := (kAt id c []).getD []
/-- a loop's round -/
def roundOf (id : Nat) (c : Code) : Code := match kOf id c with
  | .code (.block _ (.loop x)) :: _ => x
  | _ => .skip
def restOf (id : Nat) (c : Code) : List Fr := (kOf id c).tail

/-- a row of words -/
def rowN (F : Nat → Nat) : Nat → List Av := fun i => [.int .u64 (F i : Nat)]
theorem rowC_rowN (F : Nat → Nat) (n : Nat) : rowC (rowN F) n = row F n := by
  induction n with
  | zero => rfl
  | succ n ih => rw [rowC, ih, row_succ]; rfl
theorem upd_rowN (F : Nat → Nat) (i v : Nat) : upd (rowN F) i [.int .u64 (v : Nat)] = rowN (upd F i v) := by
  funext j
  by_cases h : j = i
  · subst h; simp only [upd_same, rowN]
  · simp only [upd_ne _ _ h, rowN]
theorem rowOK_N (F : Nat → Nat) (n : Nat) : RowOK 1 n (rowN F) := ⟨by omega, fun i _ => ⟨rfl, fun a ha => by simp only [rowN, List.mem_singleton] at ha; subst ha; trivial⟩⟩

/-- one's own row, out of what a call left -/
theorem own_row {w w' : World} {ρ : Env} {B : Nat → Prop} {e : TypeId} {es n d : Nat} {v : Value} {f : Nat → List Av} (hB : ∀ b, w.heap.size ≤ b → B b) (hr : RowOK es n f) (hn : 0 < n) (ho : w'.ownsRow w.heap.size e es v n (rowC f n)) (hb : Below w.heap.size w w') :
    ∃ ρ', EffPost ρ ρ' w w' B (.new d (.row true e es n f)) ∧ v = (Sv.one [.sl d es 0 n]).den ρ' := by
  rcases ho.2 with ⟨_, h0⟩ | ⟨g, cap, cur, rfl, hg, hgg, hc, hm, hs, ht⟩
  · omega
  · refine ⟨ρ.set d g cap, ⟨hb.os, hb.tape, hb.output, hb.size, fun i hi => Env.set_ne fun e => hi (by rw [e]; rfl), fun b hlt _ => hb.block b hlt, fun id' k' h => ?_, fun d' h _ => ?_⟩, sl_val.symm⟩
    · cases h
      exact own_block hr hc hm (hB g hg) hgg hs ht
    · cases h
      exact .inl (by simp [Env.set, upd_same]; exact hg)

abbrev RCon := List (List Av) → Option (TypeId × Nat × Nat × (Nat → List Av))
def rcon (k : RCon) : Con := fun args => (k (args.map fun A => A.map (·.1))).map fun q => [⟨True, fun d => .one [.sl d q.2.1 0 q.2.2.1], fun d => .new d (.row true q.1 q.2.1 q.2.2.1 q.2.2.2)⟩]

/-- a contract of a call that makes a row -/
theorem row_ok {f : Nat} (hcall : ∀ args w, (callFunc f args).run Tryd.prog w = .ok (.enter f args) w) {cls : Nat} {k : RCon}
    (h : ∀ args e es n g, k args = some (e, es, n, g) → (∀ A ∈ args, ∀ a ∈ A, a.name = none → a.plain) → 0 < n ∧ RowOK es n g ∧
      ∀ ρ w, Calls Tryd.prog f (args.map (denL ρ)).toArray w fun e' w' => ∃ v, e' = .returned v ∧ w'.ownsRow w.heap.size e es v n (rowC g n) ∧ Below w.heap.size w w') :
    EOK ⟨f, cls, rcon k⟩ := by
  have pl : ∀ (args : List RArg), (∀ A ∈ args, ∀ p ∈ A, (p.1.name = none → p.1.plain)) → ∀ A ∈ args.map fun A => A.map (·.1), ∀ a ∈ A, a.name = none → a.plain := by
    intro args hargs A hA a ha
    obtain ⟨A', hA', rfl⟩ := List.mem_map.1 hA
    obtain ⟨q, hq, rfl⟩ := List.mem_map.1 ha
    exact hargs A' hA' q hq
  constructor
  · intro args outs ho hargs i oc hi hc d
    obtain ⟨⟨e, es, n, g⟩, hk, rfl⟩ := Option.map_eq_some_iff.1 ho
    have hi' := List.mem_of_getElem? hi
    simp only [List.mem_singleton] at hi'
    subst hi'
    obtain ⟨h1, h2, _⟩ := h _ e es n g hk (pl args fun A hA p hp => (hargs A hA p hp).1)
    exact ⟨(fun _ h => by cases h; rfl), (fun _ h => by cases h), (fun _ _ h => by cases h; exact ⟨rfl, trivial, h2⟩), one1 (.inr (.inl ⟨rfl, rfl, rfl⟩))⟩
  · intro args outs ho i oc hi hc ρ w B d hB hargs hd _
    obtain ⟨⟨e, es, n, g⟩, hk, rfl⟩ := Option.map_eq_some_iff.1 ho
    have hi' := List.mem_of_getElem? hi
    simp only [List.mem_singleton] at hi'
    subst hi'
    obtain ⟨h1, h2, h3⟩ := h _ e es n g hk (pl args fun A hA p hp => (hargs A hA p hp).1)
    refine ⟨hcall _ _, ?_⟩
    have e1 : args.map (argV ρ) = (args.map fun A => A.map (·.1)).map (denL ρ) := by
      rw [List.map_map]; rfl
    rw [e1]
    refine (h3 ρ w).mono ?_
    rintro e' w' ⟨v, rfl, ho, hb⟩
    obtain ⟨ρ', hp, hv⟩ := own_row (ρ := ρ) (d := d) hB h2 h1 ho hb
    exact ⟨ρ', hp, by rw [hv]⟩

/-! ## Contracts that were walked -/

theorem add_e : EOK ⟨17, 0, pcon (k2 fun x y => [(x + y < TOP, .tup [N (x + y), E 0]), (TOP ≤ x + y, .tup [N 0, E 2])])⟩ := by
  refine k2_ok (fun a w => Tryd.call17 a w) fun x y hx hy p hp hc => ?_
  simp only [List.mem_cons, List.not_mem_nil, or_false] at hp
  rcases hp with rfl | rfl
  · refine ⟨plain2 hc (E_plain _), fun ρ w => ?_⟩
    simp only [List.map_cons, List.map_nil, denL_num]
    refine (add_calls x y hx hy w).mono ?_
    rintro e w' ⟨rfl, hb⟩
    exact ⟨hb, by simp only [addV, if_pos hc, Sv.den, List.map_cons, List.map_nil, denL_num]; rfl⟩
  · refine ⟨plain2 top_pos (E_plain _), fun ρ w => ?_⟩
    simp only [List.map_cons, List.map_nil, denL_num]
    refine (add_calls x y hx hy w).mono ?_
    rintro e w' ⟨rfl, hb⟩
    have hn : ¬ x + y < TOP := Nat.not_lt.2 hc
    exact ⟨hb, by simp only [addV, if_neg hn, Sv.den, List.map_cons, List.map_nil, denL_num]; rfl⟩

theorem sub_e : EOK ⟨53, 0, pcon (k2 fun x y => [(y ≤ x, .tup [N (x - y), B false]), (x < y, .tup [N (x + TOP - y), B true])])⟩ := by
  refine k2_ok (fun a w => Tryd.call53 a w) fun x y hx hy p hp hc => ?_
  simp only [List.mem_cons, List.not_mem_nil, or_false] at hp
  rcases hp with rfl | rfl
  · refine ⟨plain2 (by omega) (B_plain _), fun ρ w => ?_⟩
    simp only [List.map_cons, List.map_nil, denL_num]
    refine (sub_calls x y hx hy w).mono ?_
    rintro e w' ⟨rfl, hb⟩
    exact ⟨hb, by simp only [subV, if_pos hc, Sv.den, List.map_cons, List.map_nil, denL_num]; rfl⟩
  · have hc' : x < y := hc
    refine ⟨plain2 (by omega) (B_plain _), fun ρ w => ?_⟩
    simp only [List.map_cons, List.map_nil, denL_num]
    refine (sub_calls x y hx hy w).mono ?_
    rintro e w' ⟨rfl, hb⟩
    have hn : ¬ y ≤ x := Nat.not_le.2 hc
    exact ⟨hb, by simp only [subV, if_neg hn, Sv.den, List.map_cons, List.map_nil, denL_num]; rfl⟩

/-- comparisons by their sign -/
theorem cmp_e : EOK ⟨52, 0, pcon (k2 fun x y => [(True, .one [.int .i64 (cmpN x y)])])⟩ := by
  refine k2_ok (fun a w => Tryd.call52 a w) fun x y hx hy p hp hc => ?_
  simp only [List.mem_cons, List.not_mem_nil, or_false] at hp
  subst hp
  refine ⟨int_plain _ _, fun ρ w => ?_⟩
  simp only [List.map_cons, List.map_nil, denL_num]
  refine (cmp_calls x y hx hy w).mono ?_
  rintro e w' ⟨hb, rfl⟩
  exact ⟨hb, rfl⟩
theorem zero_e : EOK ⟨23, 0, pcon (k1 fun x => [(x = 0, .one (B true)), (0 < x, .one (B false))])⟩ := by
  refine k1_ok (fun a w => Tryd.call23 a w) fun x hx p hp hc => ?_
  simp only [List.mem_cons, List.not_mem_nil, or_false] at hp
  rcases hp with rfl | rfl
  all_goals
    refine ⟨B_plain _, fun ρ w => ?_⟩
    simp only [List.map_cons, List.map_nil, denL_num]
    refine (zero_calls x hx w).mono ?_
    rintro e w' ⟨rfl, hb⟩
    refine ⟨hb, ?_⟩
  · have hc' : x = 0 := hc
    simp [hc', Sv.den, denL, Av.val]
  · have hc' : 0 < x := hc
    have : ¬ x = 0 := by omega
    simp [this, Sv.den, denL, Av.val]

def digK : RCon
  | [[.big 4 x]] => some (22, 1, 16, rowN (dg x))
  | _ => none
theorem digits_e : EOK ⟨21, 0, rcon digK⟩ := by
  refine row_ok (fun a w => Tryd.call21 a w) fun args e es n g hk ha => ?_
  unfold digK at hk
  split at hk
  · rename_i x
    cases hk
    refine ⟨by omega, rowOK_N _ _, fun ρ w => ?_⟩
    simp only [List.map_cons, List.map_nil, denL_num]
    refine (digits_calls x w).mono ?_
    rintro e' w' ⟨v, rfl, ho, hb⟩
    exact ⟨v, rfl, by rw [rowC_rowN]; exact ho, hb⟩
  · cases hk

theorem cmp_lt0 (x y : Nat) : cmpN x y < 0 ↔ x < y := by unfold cmpN; (repeat' split) <;> constructor <;> intro _ <;> omega
theorem cmp_le0 (x y : Nat) : cmpN x y ≤ 0 ↔ x ≤ y := by unfold cmpN; (repeat' split) <;> constructor <;> intro _ <;> omega
theorem cmp_ge0 (x y : Nat) : 0 ≤ cmpN x y ↔ y ≤ x := by unfold cmpN; (repeat' split) <;> constructor <;> intro _ <;> omega
theorem cmp_gt0 (x y : Nat) : 0 < cmpN x y ↔ y < x := by unfold cmpN; (repeat' split) <;> constructor <;> intro _ <;> omega

def eAdd : Entry := ⟨17, 0, pcon (k2 fun x y => [(x + y < TOP, .tup [N (x + y), E 0]), (TOP ≤ x + y, .tup [N 0, E 2])])⟩
def eSub : Entry := ⟨53, 0, pcon (k2 fun x y => [(y ≤ x, .tup [N (x - y), B false]), (x < y, .tup [N (x + TOP - y), B true])])⟩
def eCmp : Entry := ⟨52, 0, pcon (k2 fun x y => [(True, .one [.int .i64 (cmpN x y)])])⟩
def eZero : Entry := ⟨23, 0, pcon (k1 fun x => [(x = 0, .one (B true)), (0 < x, .one (B false))])⟩
def eDigits : Entry := ⟨21, 0, rcon digK⟩

def tabA : List Entry := [eAdd, eSub, eCmp, eZero, eDigits]
theorem tabA_ok : TabOK tabA := .cons add_e (.cons sub_e (.cons cmp_e (.cons zero_e (.cons digits_e .nil))))

end M
end Go.Proofs.YtmjdmhelmgcanaaDoor

/- Contracts out of the machine's runs. -/
namespace Go.Proofs.YtmjdmhelmgcanaaDoor
namespace M
open Go.RowKit
variable {P : Program} {C : Ctx} {w0 : Base} {w w' : World} {ρ ρ' : Env} {σ σ' : Ms} {a : Act}

/-- a call that writes nothing of what there is -/
def base (w : World) (ρ : Env) : Base := ⟨w, fun b => w.heap.size ≤ b, ρ, fun _ h => h⟩

theorem kept_below (h : Kept (base w ρ) w') : Below w.heap.size w w' := ⟨h.os, h.tape, h.output, h.size, fun k hk => h.block k hk (Nat.not_le.2 hk)⟩

theorem den_plain {v : Sv} (h : v.all Av.plain) (ρ ρ' : Env) : v.den ρ' = v.den ρ :=
  Sv.den_congr (dom := fun _ => false) (fun _ h => by cases h) (Sv.all_mono (fun _ ha => Av.plain_inD ha _) h)

/-- numbers in, numbers out -/
theorem pure_calls (OK : ∀ {w0 : Base}, CtxOK P C w0) {f : FuncId} {fn : Func} {c : Code} (hf : P.funcs[f]? = some fn) (hb : fn.body = some c) (hnt : C.nt = fn.ntmps) {args : List Sv} (hlen : args.length ≤ fn.ntmps) (hargs : ∀ s ∈ args, s.all Av.plain) {v : Sv} (hv : v.all Av.plain)
    (g : ∀ w0, Goes P fn.ntmps w0 [.code c] .norm (kn (argS 0 args) []) (Fin C fn.results.toList fun v' _ => v' = v)) (ρ : Env) (w : World) :
    Calls P f (args.map (Sv.den ρ)).toArray w fun e w' => Below w.heap.size w w' ∧ e = .returned (v.den ρ) := by
  have hin : InOK (base w ρ) args [] := ⟨fun s hs => Sv.all_mono (fun _ h => AvOK.of_plain h) (hargs s hs), (fun _ _ h => by cases h), (fun _ _ h => by cases h), (fun _ _ _ _ h => by cases h)⟩
  refine (calls_of OK hf hb hnt hlen hin (g (base w ρ))).mono ?_
  rintro e w' ⟨v', σ', ρ', a', rfl, rfl, hr, _⟩
  exact ⟨kept_below hr.below, by rw [den_plain hv ρ ρ']⟩

/-- the same, by lists of parts -/
theorem pure_calls' (OK : ∀ {w0 : Base}, CtxOK P C w0) {f : FuncId} {fn : Func} {c : Code} (hf : P.funcs[f]? = some fn) (hb : fn.body = some c) (hnt : C.nt = fn.ntmps) {args : List (List Av)} (hlen : args.length ≤ fn.ntmps) (hargs : ∀ l ∈ args, ∀ a ∈ l, a.plain) {v : Sv} (hv : v.all Av.plain)
    (g : ∀ w0, Goes P fn.ntmps w0 [.code c] .norm (kn (argS 0 (args.map .one)) []) (Fin C fn.results.toList fun v' _ => v' = v)) (ρ : Env) (w : World) :
    Calls P f (args.map (denL ρ)).toArray w fun e w' => Below w.heap.size w w' ∧ e = .returned (v.den ρ) := by
  have h := pure_calls OK hf hb hnt (args := args.map .one) (by simpa using hlen) (fun s hs => by
    obtain ⟨l, hl, rfl⟩ := List.mem_map.1 hs
    exact hargs l hl) hv g ρ w
  have e : (args.map Sv.one).map (Sv.den ρ) = args.map (denL ρ) := by rw [List.map_map]; rfl
  rw [e] at h
  exact h

/-- a run without loops, to its return -/
theorem goes_fin (OK : CtxOK P C w0) (hm : P.follows .mixedOrders = true) {nt : Nat} (hnt : C.nt = nt) {orc : Nat → Nat} {k : List Fr} {cs : List Prop} {o' : Out} {rs : List ResultVar} {v : Sv}
    (h : seeR C rs [] (runK C orc [] 3000 k .norm σ) = some (cs, [], o', v, [])) (ho : o' = .norm ∨ o' = .ret) (hc : conj cs) : Goes P nt w0 k .norm σ (Fin C rs fun v' _ => v' = v) :=
  goes_ret OK hm hnt (H := []) h ho hc fun _ _ => rfl

theorem N2 {x y : Nat} (hx : x < TOP) (hy : y < TOP) : ∀ l ∈ [N x, N y], ∀ a ∈ l, a.plain := by
  simp only [List.mem_cons, List.not_mem_nil, or_false]
  rintro l (rfl | rfl)
  · exact N_plain hx
  · exact N_plain hy
theorem N3 {x y z : Nat} (hx : x < TOP) (hy : y < TOP) (hz : z < TOP) : ∀ l ∈ [N x, N y, N z], ∀ a ∈ l, a.plain := by
  simp only [List.mem_cons, List.not_mem_nil, or_false]
  rintro l (rfl | rfl | rfl)
  · exact N_plain hx
  · exact N_plain hy
  · exact N_plain hz
theorem N4 {x y z u : Nat} (hx : x < TOP) (hy : y < TOP) (hz : z < TOP) (hu : u < TOP) : ∀ l ∈ [N x, N y, N z, N u], ∀ a ∈ l, a.plain := by
  simp only [List.mem_cons, List.not_mem_nil, or_false]
  rintro l (rfl | rfl | rfl | rfl)
  · exact N_plain hx
  · exact N_plain hy
  · exact N_plain hz
  · exact N_plain hu
theorem N1 {x : Nat} (hx : x < TOP) : ∀ l ∈ [N x], ∀ a ∈ l, a.plain := by
  simp only [List.mem_cons, List.not_mem_nil, or_false]
  rintro l rfl
  exact N_plain hx

end M
end Go.Proofs.YtmjdmhelmgcanaaDoor

/- The long division, bit by bit: plain arithmetic. -/
namespace Go.Proofs.YtmjdmhelmgcanaaDoor
open Go.RowKit

theorem div_more {h b c : Nat} (hc : 0 < c) (hb : b < 2) (hle : c ≤ 2 * (h % c) + b) : (2 * h + b) / c = 2 * (h / c) + 1 ∧ (2 * h + b) % c = 2 * (h % c) + b - c := by
  have e := Nat.div_add_mod h c
  have l := Nat.mod_lt h hc
  apply (Nat.div_mod_unique hc).2
  have e2 : c * (2 * (h / c) + 1) = 2 * (c * (h / c)) + c := by rw [Nat.mul_add, Nat.mul_one, Nat.mul_left_comm]
  exact ⟨by rw [e2]; omega, by omega⟩
theorem div_same {h b c : Nat} (hc : 0 < c) (hlt : 2 * (h % c) + b < c) : (2 * h + b) / c = 2 * (h / c) ∧ (2 * h + b) % c = 2 * (h % c) + b := by
  have e := Nat.div_add_mod h c
  apply (Nat.div_mod_unique hc).2
  have e2 : c * (2 * (h / c)) = 2 * (c * (h / c)) := by rw [Nat.mul_left_comm]
  exact ⟨by rw [e2]; omega, hlt⟩

theorem half (Z i : Nat) : Z / 2 ^ i = 2 * (Z / 2 ^ (i + 1)) + Z / 2 ^ i % 2 := by
  rw [Nat.pow_succ, ← Nat.div_div_eq_div_mul]; omega

theorem word_pow (j r : Nat) : 18446744073709551616 ^ j * 2 ^ r = 2 ^ (64 * j + r) := by
  rw [Nat.pow_add, Nat.pow_mul]

/-- a bit, by the word in which it stands -/
theorem bit_word (Z : Nat) {j r : Nat} (hr : r < 64) : lm Z j / 2 ^ r % 2 = Z / 2 ^ (64 * j + r) % 2 := by
  unfold lm
  rw [← word_pow, ← Nat.div_div_eq_div_mul]
  generalize Z / 18446744073709551616 ^ j = a
  have e : (18446744073709551616 : Nat) = 2 ^ r * (2 * 2 ^ (63 - r)) := by
    have h : 2 ^ r * (2 * 2 ^ (63 - r)) = 2 ^ (r + (1 + (63 - r))) := by rw [Nat.pow_add, Nat.pow_add, Nat.pow_one]
    rw [h, show r + (1 + (63 - r)) = 64 by omega]
  rw [e, Nat.mod_mul_right_div_self, Nat.mod_mul_right_mod]

theorem or_bit {x r : Nat} (h : x % 2 ^ (r + 1) = 0) : x ||| 2 ^ r = x + 2 ^ r := by
  obtain ⟨m, hm⟩ := Nat.dvd_of_mod_eq_zero h
  rw [hm]
  exact (Nat.two_pow_add_eq_or_of_lt (Nat.pow_lt_pow_right (by omega) (by omega)) m).symm

/-- the words of a number that has no low bits -/
theorem low_clear {u : Nat → Nat} {n Q j r : Nat} (hj : j < n) (hr : r < 64) (hu : ∀ i, i < n → u i < 18446744073709551616) (h : lim u n = Q * 2 ^ (64 * j + r + 1)) :
    u j % 2 ^ (r + 1) = 0 ∧ u j + 2 ^ r < 18446744073709551616 := by
  have e : u j % 2 ^ (r + 1) = 0 := by
    have e1 := lm_lim hu hj
    rw [← e1, h]
    unfold lm
    have e2 : Q * 2 ^ (64 * j + r + 1) = 18446744073709551616 ^ j * (Q * 2 ^ (r + 1)) := by
      rw [Nat.add_assoc, ← word_pow]; ac_rfl
    rw [e2, Nat.mul_div_cancel_left _ (Nat.pow_pos (by omega))]
    have e3 : (18446744073709551616 : Nat) = 2 ^ (r + 1) * 2 ^ (63 - r) := by
      rw [← Nat.pow_add, show r + 1 + (63 - r) = 64 by omega]
    rw [e3, Nat.mod_mul_right_mod, Nat.mul_mod_left]
  refine ⟨e, ?_⟩
  obtain ⟨m, hm⟩ := Nat.dvd_of_mod_eq_zero e
  have hlt := hu j hj
  have e3 : (18446744073709551616 : Nat) = 2 ^ (r + 1) * 2 ^ (63 - r) := by
    rw [← Nat.pow_add, show r + 1 + (63 - r) = 64 by omega]
  have hm2 : m + 1 ≤ 2 ^ (63 - r) := by
    rw [hm, e3] at hlt
    exact Nat.lt_of_mul_lt_mul_left hlt
  have h4 : 2 ^ (r + 1) * (m + 1) ≤ 2 ^ (r + 1) * 2 ^ (63 - r) := Nat.mul_le_mul_left _ hm2
  rw [← e3, Nat.mul_add, Nat.mul_one, ← hm, Nat.pow_succ] at h4
  have hp : 0 < 2 ^ r := Nat.pow_pos (by omega)
  omega

/-- a round in which there is enough -/
theorem quo_more {Z c k : Nat} {u : Nat → Nat} {n j r : Nat} (hc : 0 < c) (hj : j < n) (hr : r < 64) (hk : k = 64 * j + r) (hu : ∀ i, i < n → u i < 18446744073709551616)
    (h : lim u n = Z / 2 ^ (k + 1) / c * 2 ^ (k + 1)) (hle : c ≤ 2 * (Z / 2 ^ (k + 1) % c) + Z / 2 ^ k % 2) :
    u j ||| 2 ^ r = u j + 2 ^ r ∧ u j + 2 ^ r < 18446744073709551616 ∧ lim (set1 u j (u j + 2 ^ r)) n = Z / 2 ^ k / c * 2 ^ k ∧ Z / 2 ^ k % c = 2 * (Z / 2 ^ (k + 1) % c) + Z / 2 ^ k % 2 - c := by
  have hlow := low_clear (Q := Z / 2 ^ (k + 1) / c) hj hr hu (by rw [h, hk])
  have hd := div_more hc (Nat.mod_lt (Z / 2 ^ k) (by omega)) hle
  rw [← half] at hd
  have L := lim_set u (u := u j + 2 ^ r) hj
  refine ⟨or_bit hlow.1, hlow.2, ?_, hd.2⟩
  rw [hd.1]
  have e : (u j + 2 ^ r) * 18446744073709551616 ^ j = u j * 18446744073709551616 ^ j + 2 ^ k := by
    rw [Nat.add_mul, hk, ← word_pow, Nat.mul_comm (2 ^ r)]
  rw [e, h, Nat.pow_succ] at L
  have e2 : Z / (2 ^ k * 2) / c * (2 ^ k * 2) = 2 * (Z / (2 ^ k * 2) / c) * 2 ^ k := by ac_rfl
  rw [Nat.pow_succ, Nat.add_mul, Nat.one_mul, ← e2]
  omega
theorem quo_same {Z c k : Nat} {L : Nat} (hc : 0 < c)
    (h : L = Z / 2 ^ (k + 1) / c * 2 ^ (k + 1)) (hlt : 2 * (Z / 2 ^ (k + 1) % c) + Z / 2 ^ k % 2 < c) :
    L = Z / 2 ^ k / c * 2 ^ k ∧ Z / 2 ^ k % c = 2 * (Z / 2 ^ (k + 1) % c) + Z / 2 ^ k % 2 := by
  have hd := div_same hc hlt
  rw [← half] at hd
  refine ⟨?_, hd.2⟩
  rw [hd.1, h, Nat.pow_succ]
  ac_rfl

end Go.Proofs.YtmjdmhelmgcanaaDoor

/- num.shift: one bit to the left, in place: by the machine. -/
namespace Go.Proofs.YtmjdmhelmgcanaaDoor
namespace M
open Go.RowKit

def shS (n i : Nat) : List (Nat × Sv) := [(0, .one [.ptr 1000 0]), (1, .one [.int .u64 (n : Nat)]), (7, .one [.ptr 1000 0]), (8, .one [.int .i64 (i : Nat)])]
def shH (x : Nat) : List (Nat × Bk) := [(1000, .var [.big 4 x] 24)]
def shA (n : Nat) : List (Nat × Sv) := argS 0 [.one [.ptr 1000 0], .one [.int .u64 (n : Nat)]]

/-- one word -/
def shV (x n i : Nat) : Nat := orN (lm x i * 2 % 18446744073709551616) n

theorem shV_eq (x : Nat) {n i : Nat} (hn : n < 2) : shV x n i + 18446744073709551616 * (lm x i / 9223372036854775808) = 2 * lm x i + n ∧ shV x n i < 18446744073709551616 := by
  have hl := lm_lt x i
  have e : shV x n i = lm x i * 2 % 18446744073709551616 + n := by
    unfold shV orN
    have e1 : lm x i * 2 % 18446744073709551616 = 2 ^ 1 * (lm x i % 9223372036854775808) := by omega
    rw [e1, Nat.two_pow_add_eq_or_of_lt (by omega)]
  rw [e]
  omega

/-- what holds at a round's head: the number, the bit that comes, the round -/
def shI (x0 n0 : Nat) (p : Nat × Nat × Nat) : Prop := p.1 < TOP ∧ p.2.1 < 2 ∧ p.2.2 ≤ 4 ∧ (∀ j, p.2.2 ≤ j → j < 4 → lm p.1 j = lm x0 j) ∧ p.1 + p.2.1 * 18446744073709551616 ^ p.2.2 = x0 + x0 % 18446744073709551616 ^ p.2.2 + n0

theorem shI_step {x0 n0 x n i : Nat} (h : shI x0 n0 (x, n, i)) (hi : i < 4) : shI x0 n0 (stw 4 x i (shV x n i), lm x i / 9223372036854775808, i + 1) := by
  obtain ⟨h1, h2, h3, h4, h5⟩ := h
  simp only at h1 h2 h3 h4 h5
  obtain ⟨e1, e2⟩ := shV_eq x (i := i) h2
  have hl := lm_lt x i
  have e3 := stw_add (v := shV x n i) (n := 4) (by rw [pow64_4]; exact h1) hi
  refine ⟨by rw [← pow64_4]; exact stw_lt e2, by show lm x i / 9223372036854775808 < 2; omega, by show i + 1 ≤ 4; omega, fun j hj hj4 => ?_, ?_⟩
  · have hj' : i + 1 ≤ j := hj
    show lm (stw 4 x i (shV x n i)) j = lm x0 j
    rw [lm_stw e2 hj4, upd_ne _ _ (by omega : j ≠ i)]
    exact h4 j (by omega) hj4
  · show stw 4 x i (shV x n i) + lm x i / 9223372036854775808 * 18446744073709551616 ^ (i + 1) = x0 + x0 % 18446744073709551616 ^ (i + 1) + n0
    have ha := h4 i (Nat.le_refl _) hi
    have e4 : x0 % 18446744073709551616 ^ (i + 1) = x0 % 18446744073709551616 ^ i + 18446744073709551616 ^ i * lm x i := by rw [Nat.pow_succ, Nat.mod_mul, ha]; rfl
    rw [e4, Nat.pow_succ]
    generalize 18446744073709551616 ^ i = W at *
    generalize lm x i / 9223372036854775808 = q at *
    have e5 : (shV x n i + 18446744073709551616 * q) * W = (2 * lm x i + n) * W := by rw [e1]
    rw [Nat.add_mul, Nat.add_mul, Nat.mul_assoc 2, Nat.mul_assoc] at e5
    have e6 : q * (W * 18446744073709551616) = 18446744073709551616 * (q * W) := by ac_rfl
    have e7 : W * lm x i = lm x i * W := Nat.mul_comm _ _
    rw [e6, e7]
    omega

theorem shift_goes {w0 : Base} (x n : Nat) (hx : x < TOP) (hn : n < 2) : Goes Tryd.prog Tryd.f51.ntmps w0 [.code (bodyOf Tryd.f51)] .norm (kn (shA n) (shH x))
    (Fin (ctx tabA 26) Tryd.f51.results.toList fun v σ => v = .one [.int .u64 (((2 * x + n) / TOP : Nat) : Int)] ∧ σ.heap 1000 = some (.var [.big 4 ((2 * x + n) % TOP)] 24)) := by
  refine (goes (ctx_ok tabA_ok 26) mixed rfl (gs := [8]) (gh := []) (orc := way []) (stops := [0]) (f := 3000) (k := [.code (bodyOf Tryd.f51)]) (o := .norm) (σ := (kn (shA n) (shH x))) (cs := [True, True, True]) (k' := (kOf 0 (bodyOf Tryd.f51))) (o' := .norm) (S := (shS n 0)) (H := (shH x)) (by kernel_rfl) (by kernel_rfl) (by simp [conj])).bind ?_
  rintro k o σ ⟨rfl, rfl, rfl⟩
  have hk : kOf 0 (bodyOf Tryd.f51) = .code (.block 0 (.loop (roundOf 0 (bodyOf Tryd.f51)))) :: restOf 0 (bodyOf Tryd.f51) := by kernel_rfl
  rw [hk]
  refine (goes_loop (fun p : Nat × Nat × Nat => kn (shS p.2.1 p.2.2) (shH p.1)) (shI x n) (fun p => 4 - p.2.2) (fun o σ => o = .norm ∧ ∃ y m, shI x n (y, m, 4) ∧ σ = kn (shS m 4) (shH y)) ?_ (p := (x, n, 0)) ⟨hx, hn, by simp, fun j _ _ => rfl, by simp [Nat.mod_one]⟩).bind ?_
  · rintro ⟨y, m, i⟩ hI
    have hI' := hI
    obtain ⟨h1, h2, h3, h4, h5⟩ := hI'
    simp only at h1 h2 h3 h4 h5 ⊢
    have hl := lm_lt y i
    have hv := (shV_eq y (i := i) h2).2
    have hv' : IntKind.wrap IntKind.u64 ((lm y i * 2 : Nat) : Int) = ((lm y i * 2 % 18446744073709551616 : Nat) : Int) := by kernel_rfl
    rcases Nat.lt_or_eq_of_le h3 with hi | hi
    · refine (goes (ctx_ok tabA_ok 26) mixed rfl (gs := []) (gh := []) (orc := way [(17, 1)]) (stops := []) (f := 3000) (k := [.code (roundOf 0 (bodyOf Tryd.f51))]) (o := .norm) (σ := (kn (shS m i) (shH y))) (cs := [(↑i : Int) < (4 : Int), True, True, (0 : Int) ≤ (↑i : Int) ∧ (↑i : Int) < (↑(4 : Nat) : Int), i < (4 : Nat), True, True, True, True, True, (0 : Int) ≤ (↑(lm y i) : Int) ∧ (0 : Int) ≤ (1 : Int) ∧ (1 : Int) < (64 : Int), True, ((0 : Int) ≤ IntKind.wrap IntKind.u64 (↑(lm y i * (2 : Nat) ^ 1) : Int) ∧ IntKind.wrap IntKind.u64 (↑(lm y i * (2 : Nat) ^ 1) : Int) < (18446744073709551616 : Int)) ∧ (0 : Int) ≤ (↑m : Int) ∧ (↑m : Int) < (18446744073709551616 : Int), True, (0 : Int) ≤ (↑(lm y i) : Int) ∧ (0 : Int) ≤ (63 : Int) ∧ (63 : Int) < (64 : Int), True, (0 : Int) ≤ (↑i : Int) ∧ (↑i : Int) < (↑(4 : Nat) : Int), i < (4 : Nat) ∧ (0 : Int) ≤ (↑(orN (lm y i * (2 : Nat) ^ 1 % 18446744073709551616) m) : Int) ∧ (↑(orN (lm y i * (2 : Nat) ^ 1 % 18446744073709551616) m) : Int) < (18446744073709551616 : Int), True, (-9223372036854775808 : Int) ≤ (↑i : Int) + (1 : Int) ∧ (↑i : Int) + (1 : Int) < (9223372036854775808 : Int), True]) (k' := []) (o' := .norm) (S := (shS (lm y i / 9223372036854775808) (i + 1))) (H := (shH (stw 4 y i (shV y m i)))) (by kernel_rfl) (by kernel_rfl) ?_).mono ?_
      · simp only [conj, and_true, true_and, Nat.reducePow, hv']
        unfold shV at hv
        omega
      · rintro k o σ ⟨rfl, rfl, rfl⟩
        exact ⟨rfl, .inl ⟨rfl, _, shI_step hI hi, by show 4 - (i + 1) < 4 - i; omega, rfl⟩⟩
    · subst hi
      refine (goes (ctx_ok tabA_ok 26) mixed rfl (gs := []) (gh := []) (orc := way [(9, 1)]) (stops := []) (f := 3000) (k := [.code (roundOf 0 (bodyOf Tryd.f51))]) (o := .norm) (σ := (kn (shS m 4) (shH y))) (cs := [¬(↑(4 : Nat) : Int) < (4 : Int)]) (k' := []) (o' := (.exit 0)) (S := (shS m 4)) (H := (shH y)) (by kernel_rfl) (by kernel_rfl) (by simp [conj])).mono ?_
      rintro k o σ ⟨rfl, rfl, rfl⟩
      exact ⟨rfl, .inr ⟨by simp, rfl, y, m, hI, rfl⟩⟩
  · rintro k o σ ⟨rfl, rfl, y, m, hI, rfl⟩
    obtain ⟨h1, h2, h3, h4, h5⟩ := hI
    simp only at h1 h2 h3 h4 h5
    have e : (18446744073709551616 : Nat) ^ 4 = TOP := rfl
    rw [e, Nat.mod_eq_of_lt hx] at h5
    have hq : m = (2 * x + n) / TOP ∧ y = (2 * x + n) % TOP := by
      have := (Nat.div_mod_unique (a := 2 * x + n) (b := TOP) (c := y) (d := m) top_pos).2 ⟨by rw [Nat.mul_comm]; omega, h1⟩
      exact ⟨this.1.symm, this.2.symm⟩
    rw [← hq.1, ← hq.2]
    refine goes_ret (ctx_ok tabA_ok 26) mixed rfl (orc := way []) (stops := []) (f := 3000) (k := (restOf 0 (bodyOf Tryd.f51))) (o := .norm) (σ := (kn (shS m 4) (shH y))) (cs := [True, True]) (o' := .ret) (rs := Tryd.f51.results.toList) (v := (.one [.int .u64 (m : Nat)])) (H := (shH y)) (by kernel_rfl) (.inr rfl) (by simp [conj]) fun σ hσ => ⟨rfl, hσ (1000, _) (List.mem_singleton.2 rfl)⟩

end M
end Go.Proofs.YtmjdmhelmgcanaaDoor

/- The long division, by the machine. -/
namespace Go.Proofs.YtmjdmhelmgcanaaDoor
namespace M
open Go.RowKit

def shiftC : Con
  | [[(.ptr id 0, some (.var [.big 4 x] 24))], [(.int .u64 n, none)]] =>
    some [⟨n = 0 ∨ n = 1, fun _ => .one [.int .u64 (((2 * x + n.toNat) / TOP : Nat) : Int)], fun _ => .put id (.var [.big 4 ((2 * x + n.toNat) % TOP)] 24)⟩]
  | _ => none
def eShift : Entry := ⟨51, 2, shiftC⟩
def tabB : List Entry := eShift :: tabA

theorem shift_e : EOK eShift := by
  constructor
  · intro args outs ho hargs i oc hi hc d
    have ho' : shiftC args = some outs := ho
    unfold shiftC at ho'
    split at ho'
    · rename_i id x n
      cases ho'
      have hi' := List.mem_of_getElem? hi
      simp only [List.mem_singleton] at hi'
      subst hi'
      refine ⟨(fun _ h => by cases h), (fun id' h => ?_), (fun id' k' h => ?_), one1 (.inl trivial)⟩
      · cases h
        exact ⟨_, ⟨_, List.mem_cons_self, _, List.mem_cons_self, rfl⟩, rfl⟩
      · cases h
        refine ⟨rfl, ?_, trivial⟩
        intro a ha
        simp only [List.mem_singleton] at ha
        subst ha
        show _ < pow64 4
        rw [pow64_4]
        exact Nat.mod_lt _ top_pos
    · cases ho'
  · intro args outs ho i oc hi hc ρ w B d hB hargs hd hinj
    have ho' : shiftC args = some outs := ho
    unfold shiftC at ho'
    split at ho'
    · rename_i id x n
      cases ho'
      have hi' := List.mem_of_getElem? hi
      simp only [List.mem_singleton] at hi'
      subst hi'
      refine ⟨Tryd.call51 _ _, ?_⟩
      obtain ⟨id', hid', ⟨hb1, hb2⟩, hloose⟩ := (hargs _ List.mem_cons_self _ List.mem_cons_self).2 _ rfl
      cases hid'
      have hx0 : x < pow64 4 := hloose (.big 4 x) List.mem_cons_self rfl
      have hx : x < TOP := by rw [← pow64_4]; exact hx0
      obtain ⟨m, rfl⟩ : ∃ m : Nat, n = (m : Int) := by rcases hc with h | h <;> exact ⟨n.toNat, by rw [h]; rfl⟩
      have hm : m < 2 := by rcases hc with h | h <;> omega
      let w0 : Base := ⟨w, fun b => b = ρ.b id ∨ w.heap.size ≤ b, ⟨fun _ => ρ.b id, ρ.o, ρ.c⟩, fun _ h => .inr h⟩
      have hin : InOK w0 [.one [.ptr 1000 0], .one [.int .u64 (m : Nat)]] (shH x) := by
        refine ⟨?_, fun id' k hk => ?_, fun id' k hk => ?_, fun i j ki kj hi hj => ?_⟩
        · simp only [List.mem_cons, List.not_mem_nil, or_false]
          rintro s (rfl | rfl)
          · exact one1 ⟨rfl, rfl⟩
          · exact one1 (AvOK.of_plain trivial)
        · have := lookH_mem hk
          simp only [shH, List.mem_singleton, Prod.mk.injEq] at this
          obtain ⟨rfl, rfl⟩ := this
          exact ⟨.inl rfl, hb2⟩
        · have := lookH_mem hk
          simp only [shH, List.mem_singleton, Prod.mk.injEq] at this
          obtain ⟨rfl, rfl⟩ := this
          intro a ha
          simp only [List.mem_singleton] at ha
          subst ha
          exact AvOK.of_plain hx0
        · have h1 := lookH_mem hi
          have h2 := lookH_mem hj
          simp only [shH, List.mem_singleton, Prod.mk.injEq] at h1 h2
          intro _ _ _
          rw [h1.1, h2.1]
      have hcalls := calls_of (w0 := w0) (ctx_ok tabA_ok 26) Tryd.func51 (c := bodyOf Tryd.f51) rfl rfl (Nat.le_of_ble_eq_true (by kernel_rfl)) hin (shift_goes x m hx hm)
      refine hcalls.mono ?_
      rintro e w' ⟨v, σ', ρ', a', ⟨rfl, hσ⟩, rfl, hr, _⟩
      refine ⟨ρ, ⟨hr.below.os, hr.below.tape, hr.below.output, hr.below.size, fun _ _ => ⟨rfl, rfl, rfl⟩, fun b hb hne => ?_, fun id' k' h => ?_, fun d' h => by cases h⟩, rfl⟩
      · exact hr.below.block b hb (fun h => by
          rcases h with h | h
          · exact hne id rfl h
          · exact absurd hb (Nat.not_lt.2 h))
      · cases h
        have h1 := hr.blocks 1000 _ hσ
        have h2 : ρ'.b 1000 = ρ.b id := (hr.names 1000 (Nat.le_refl _)).2.1
        have h3 := h1.2
        rw [h2] at h3
        exact ⟨hb1, h3⟩
    · cases ho'

end M
end Go.Proofs.YtmjdmhelmgcanaaDoor

/- num's product by a number: the long division. -/
namespace Go.Proofs.YtmjdmhelmgcanaaDoor
namespace M
open Go.RowKit

def byS (i : Int) : List (Nat × Sv) := [(2, .one [.ptr 2 0]), (3, .one [.ptr 3 0]), (4, .one [.ptr 4 0]), (5, .one [.ptr 5 0]), (6, .one [.ptr 6 0]), (7, .one [.ptr 7 0]), (8, .one [.int .i64 i])]
def byH (Z c Q R : Nat) : List (Nat × Bk) := [(2, .var [.big 8 Z] 70), (3, .var [.big 4 c] 24), (4, .var [.big 8 0] 70), (5, .var [.big 4 0] 24), (6, .var [.big 8 Q] 70), (7, .var [.big 4 R] 24)]
def byA (Z c : Nat) : List (Nat × Sv) := argS 0 [.one [.big 8 Z], .one [.big 4 c]]
/-- the bit that comes -/
def byBit (Z m : Nat) : Nat := lm Z (m / 64) / 2 ^ (m % 64) % 2
/-- what is left, with it -/
def byR (Z R m : Nat) : Nat := 2 * R + byBit Z m
/-- the quotient, with a bit more -/
def byQ (Q m : Nat) : Nat := stw 8 Q (m / 64) (orN (lm Q (m / 64)) (1 * 2 ^ (m % 64)))

theorem tabB_ok : TabOK tabB := .cons shift_e tabA_ok

theorem byBit_eq (Z m : Nat) : byBit Z m = Z / 2 ^ m % 2 := by
  unfold byBit
  rw [bit_word Z (Nat.mod_lt _ (by omega)), Nat.div_add_mod]

theorem pow64_lim {Q n : Nat} (h : Q < pow64 n) : Go.Proofs.YtmjdmhelmgcanaaDoor.lim (lm Q) n = Q := by
  rw [Go.Proofs.YtmjdmhelmgcanaaDoor.lim_lm]; exact Nat.mod_eq_of_lt h

/-- a bit more -/
theorem byQ_eq {Q X m : Nat} (hm : m < 512) (hQ : Q < pow64 8) (h : Q = X * 2 ^ (m + 1)) :
    byQ Q m = Q + 2 ^ m ∧ byQ Q m < pow64 8 ∧ (orN (lm Q (m / 64)) (1 * 2 ^ (m % 64))) < 18446744073709551616 := by
  have hj : m / 64 < 8 := by omega
  have hr : m % 64 < 64 := by omega
  have e0 : 64 * (m / 64) + m % 64 = m := Nat.div_add_mod m 64
  obtain ⟨e1, e2⟩ := low_clear (u := lm Q) (n := 8) (Q := X) hj hr (fun i _ => lm_lt _ _) (by rw [pow64_lim hQ, h, e0])
  have e3 : (orN (lm Q (m / 64)) (1 * 2 ^ (m % 64))) = lm Q (m / 64) + 2 ^ (m % 64) := by unfold orN; rw [Nat.one_mul]; exact or_bit e1
  have e4 : (orN (lm Q (m / 64)) (1 * 2 ^ (m % 64))) < 18446744073709551616 := by rw [e3]; exact e2
  refine ⟨?_, stw_lt e4, e4⟩
  have e5 := stw_add (v := orN (lm Q (m / 64)) (1 * 2 ^ (m % 64))) hQ hj
  unfold byQ
  rw [e3, Nat.add_mul, Nat.mul_comm (2 ^ (m % 64)), word_pow, e0] at e5
  rw [e3]
  omega

/-- what holds at a round's head: the round's number (one less), the quotient, what is left -/
def byI (Z c : Nat) (p : Int × Nat × Nat) : Prop := -1 ≤ p.1 ∧ p.1 ≤ 511 ∧ p.2.1 < pow64 8 ∧ p.2.1 = Z / 2 ^ (p.1 + 1).toNat / c * 2 ^ (p.1 + 1).toNat ∧ p.2.2 = Z / 2 ^ (p.1 + 1).toNat % c

theorem byI_more {Z c m Q R : Nat} (h0 : 0 < c) (hm : m < 512) (h : byI Z c ((m : Int), Q, R)) (hle : c ≤ byR Z R m) : byI Z c ((m : Int) - 1, byQ Q m, byR Z R m - c) := by
  obtain ⟨h1, h2, h3, h4, h5⟩ := h
  simp only at h1 h2 h3 h4 h5
  have e1 : ((m : Int) + 1).toNat = m + 1 := by omega
  have e2 : ((m : Int) - 1 + 1).toNat = m := by omega
  rw [e1] at h4 h5
  unfold byR at hle ⊢
  rw [byBit_eq, h5] at hle
  obtain ⟨q1, q2, _⟩ := byQ_eq hm h3 h4
  have hd := div_more h0 (Nat.mod_lt (Z / 2 ^ m) (by omega)) hle
  rw [← half] at hd
  refine ⟨by simp only; omega, by simp only; omega, q2, ?_, ?_⟩
  · show byQ Q m = Z / 2 ^ ((m : Int) - 1 + 1).toNat / c * 2 ^ ((m : Int) - 1 + 1).toNat
    rw [e2, q1, h4, hd.1, Nat.pow_succ, Nat.add_mul, Nat.one_mul]
    congr 1
    ac_rfl
  · show 2 * R + byBit Z m - c = Z / 2 ^ ((m : Int) - 1 + 1).toNat % c
    rw [e2, hd.2, byBit_eq, h5]
theorem byI_same {Z c m Q R : Nat} (h0 : 0 < c) (hm : m < 512) (h : byI Z c ((m : Int), Q, R)) (hlt : byR Z R m < c) : byI Z c ((m : Int) - 1, Q, byR Z R m) := by
  obtain ⟨h1, h2, h3, h4, h5⟩ := h
  simp only at h1 h2 h3 h4 h5
  have e1 : ((m : Int) + 1).toNat = m + 1 := by omega
  have e2 : ((m : Int) - 1 + 1).toNat = m := by omega
  rw [e1] at h4 h5
  unfold byR at hlt ⊢
  rw [byBit_eq, h5] at hlt
  have hd := div_same h0 hlt
  rw [← half] at hd
  refine ⟨by simp only; omega, by simp only; omega, h3, ?_, ?_⟩
  · show Q = Z / 2 ^ ((m : Int) - 1 + 1).toNat / c * 2 ^ ((m : Int) - 1 + 1).toNat
    rw [e2, h4, hd.1, Nat.pow_succ]
    ac_rfl
  · show 2 * R + byBit Z m = Z / 2 ^ ((m : Int) - 1 + 1).toNat % c
    rw [e2, hd.2, byBit_eq, h5]

theorem byI_start {Z c : Nat} (hZ : Z < pow64 8) : byI Z c (511, 0, 0) := by
  have key : ∀ a b n : Nat, a = 64 → b = 8 → n = a * b → Z / 2 ^ n = 0 := by
    intro a b n ha hb hn
    have h : Z < (2 ^ a) ^ b := by rw [ha, hb]; exact hZ
    rw [← Nat.pow_mul, ← hn] at h
    exact Nat.div_eq_of_lt h
  obtain ⟨n, hn⟩ : ∃ n, ((511 : Int) + 1).toNat = n := ⟨_, rfl⟩
  have hz := key 64 8 n rfl rfl (by rw [← hn]; rfl)
  refine ⟨by omega, by omega, Nat.pow_pos (by omega), ?_, ?_⟩
  · simp only [hn, hz, Nat.zero_div, Nat.zero_mul]
  · simp only [hn, hz, Nat.zero_mod]

theorem by_round {w0 : Base} {Z c m Q R : Nat} (h0 : 0 < c) (hc : c < TOP) (hm : m < 512) (h : byI Z c ((m : Int), Q, R)) :
    ∃ Q' R', byI Z c ((m : Int) - 1, Q', R') ∧ Goes Tryd.prog Tryd.f38.ntmps w0 [.code (roundOf 0 (bodyOf Tryd.f38))] .norm (kn (byS (m : Int)) (byH Z c Q R)) fun k o σ => k = [] ∧ o = .norm ∧ σ = kn (byS ((m : Int) - 1)) (byH Z c Q' R') := by
  have h' := h
  obtain ⟨h1, h2, h3, h4, h5⟩ := h'
  simp only at h1 h2 h3 h4 h5
  have e1 : ((m : Int) + 1).toNat = m + 1 := by omega
  rw [e1] at h4 h5
  have hR : R < c := by rw [h5]; exact Nat.mod_lt _ h0
  have hb : byBit Z m < 2 := Nat.mod_lt _ (by omega)
  have hl := lm_lt Z (m / 64)
  have hl2 : lm Z (m / 64) / 2 ^ (m % 64) ≤ lm Z (m / 64) := Nat.div_le_self _ _
  have hnn : (0 : Int) ≤ ((lm Z (m / 64) / 2 ^ (m % 64) : Nat) : Int) := Int.natCast_nonneg _
  obtain ⟨_, _, hq⟩ := byQ_eq hm h3 h4
  have hq2 := lm_lt Q (m / 64)
  have hp : (2 : Nat) ^ (m % 64) ≤ 9223372036854775808 := Nat.pow_le_pow_right (n := 2) (i := m % 64) (j := 63) (by omega) (by omega)
  have ht := top_eq
  have hdef : byR Z R m = 2 * R + byBit Z m := rfl
  have hbd : byBit Z m = lm Z (m / 64) / 2 ^ (m % 64) % 2 := rfl
  have hmod : byR Z R m % TOP < TOP := Nat.mod_lt _ top_pos
  have hval : 2 * R + lm Z (m / 64) / 2 ^ (m % 64) % 2 = byR Z R m := rfl
  rcases Nat.lt_or_ge (byR Z R m) c with hlt | hge
  · refine ⟨_, _, byI_same h0 hm h hlt, ?_⟩
    have hd0 : byR Z R m / TOP = 0 := Nat.div_eq_of_lt (by omega)
    have hm0 : byR Z R m % TOP = byR Z R m := Nat.mod_eq_of_lt (by omega)
    have hcmp := (cmp_lt0 (byR Z R m % TOP) c).2 (by omega)
    refine Goes.mono (goes (ctx_ok tabB_ok 48) mixed rfl (gs := []) (gh := []) (orc := way [(24, 1), (29, 1)]) (stops := []) (f := 3000) (k := [.code (roundOf 0 (bodyOf Tryd.f38))]) (o := .norm) (σ := (kn (byS (m : Int)) (byH Z c Q R))) (cs := [True, (0 : Int) ≤ (↑m : Int), True, (0 : Int) ≤ (↑m : Int) ∧ (-9223372036854775808 : Int) ≤ (↑m : Int) / (64 : Int) ∧ (↑m : Int) / (64 : Int) < (9223372036854775808 : Int), (0 : Int) ≤ (↑m : Int) / (64 : Int) ∧ (↑m : Int) / (64 : Int) < (↑(8 : Nat) : Int), m / 64 < (8 : Nat), True, (0 : Int) ≤ (↑m : Int), (0 : Int) ≤ (↑(lm Z (m / 64)) : Int) ∧ (0 : Int) ≤ (↑m : Int) % (64 : Int) ∧ (↑m : Int) % (64 : Int) < (64 : Int), (0 : Int) ≤ (↑(lm Z (m / 64) / (2 : Nat) ^ (m % 64)) : Int) ∧ (↑(lm Z (m / 64) / (2 : Nat) ^ (m % 64)) : Int) < (18446744073709551616 : Int), (↑(lm Z (m / 64) / (2 : Nat) ^ (m % 64)) : Int) % (2 : Int) = (0 : Int) ∨ (↑(lm Z (m / 64) / (2 : Nat) ^ (m % 64)) : Int) % (2 : Int) = (1 : Int), True, True, ¬(↑(((2 : Nat) * R + lm Z (m / 64) / (2 : Nat) ^ (m % 64) % 2) / TOP) : Int) ≠ (0 : Int), True, True, True, True, ¬(0 : Int) ≤ cmpN (((2 : Nat) * R + lm Z (m / 64) / (2 : Nat) ^ (m % 64) % 2) % TOP) c, True, True, (-9223372036854775808 : Int) ≤ (↑m : Int) - (1 : Int) ∧ (↑m : Int) - (1 : Int) < (9223372036854775808 : Int), True]) (k' := []) (o' := .norm) (S := (byS ((m : Int) - 1))) (H := (byH Z c Q (byR Z R m % TOP))) (by kernel_rfl) (by kernel_rfl) ?_) ?_
    · simp only [conj, and_true, true_and, hval, hd0]
      omega
    · rw [hm0]
      exact fun _ _ _ h => h
  · refine ⟨_, _, byI_more h0 hm h hge, ?_⟩
    rcases Nat.lt_or_ge (byR Z R m) TOP with hT | hT
    · have hd0 : byR Z R m / TOP = 0 := Nat.div_eq_of_lt hT
      have hm0 : byR Z R m % TOP = byR Z R m := Nat.mod_eq_of_lt hT
      have hcmp := (cmp_ge0 (byR Z R m % TOP) c).2 (by omega)
      refine Goes.mono (goes (ctx_ok tabB_ok 48) mixed rfl (gs := []) (gh := []) (orc := way [(24, 1)]) (stops := []) (f := 3000) (k := [.code (roundOf 0 (bodyOf Tryd.f38))]) (o := .norm) (σ := (kn (byS (m : Int)) (byH Z c Q R))) (cs := [True, (0 : Int) ≤ (↑m : Int), True, (0 : Int) ≤ (↑m : Int) ∧ (-9223372036854775808 : Int) ≤ (↑m : Int) / (64 : Int) ∧ (↑m : Int) / (64 : Int) < (9223372036854775808 : Int), (0 : Int) ≤ (↑m : Int) / (64 : Int) ∧ (↑m : Int) / (64 : Int) < (↑(8 : Nat) : Int), m / 64 < (8 : Nat), True, (0 : Int) ≤ (↑m : Int), (0 : Int) ≤ (↑(lm Z (m / 64)) : Int) ∧ (0 : Int) ≤ (↑m : Int) % (64 : Int) ∧ (↑m : Int) % (64 : Int) < (64 : Int), (0 : Int) ≤ (↑(lm Z (m / 64) / (2 : Nat) ^ (m % 64)) : Int) ∧ (↑(lm Z (m / 64) / (2 : Nat) ^ (m % 64)) : Int) < (18446744073709551616 : Int), (↑(lm Z (m / 64) / (2 : Nat) ^ (m % 64)) : Int) % (2 : Int) = (0 : Int) ∨ (↑(lm Z (m / 64) / (2 : Nat) ^ (m % 64)) : Int) % (2 : Int) = (1 : Int), True, True, ¬(↑(((2 : Nat) * R + lm Z (m / 64) / (2 : Nat) ^ (m % 64) % 2) / TOP) : Int) ≠ (0 : Int), True, True, True, True, (0 : Int) ≤ cmpN (((2 : Nat) * R + lm Z (m / 64) / (2 : Nat) ^ (m % 64) % 2) % TOP) c, True, True, True, c ≤ ((2 : Nat) * R + lm Z (m / 64) / (2 : Nat) ^ (m % 64) % 2) % TOP, True, True, True, True, True, (0 : Int) ≤ (↑m : Int) ∧ (-9223372036854775808 : Int) ≤ (↑m : Int) / (64 : Int) ∧ (↑m : Int) / (64 : Int) < (9223372036854775808 : Int), (0 : Int) ≤ (↑m : Int) / (64 : Int) ∧ (↑m : Int) / (64 : Int) < (↑(8 : Nat) : Int), m / 64 < (8 : Nat), True, (0 : Int) ≤ (↑m : Int), (0 : Int) ≤ (1 : Int) ∧ (0 : Int) ≤ (↑m : Int) % (64 : Int) ∧ (↑m : Int) % (64 : Int) < (64 : Int) ∧ (0 : Int) ≤ (↑(1 * (2 : Nat) ^ (m % 64)) : Int) ∧ (↑(1 * (2 : Nat) ^ (m % 64)) : Int) < (18446744073709551616 : Int), ((0 : Int) ≤ (↑(lm Q (m / 64)) : Int) ∧ (↑(lm Q (m / 64)) : Int) < (18446744073709551616 : Int)) ∧ (0 : Int) ≤ (↑(1 * (2 : Nat) ^ (m % 64)) : Int) ∧ (↑(1 * (2 : Nat) ^ (m % 64)) : Int) < (18446744073709551616 : Int), (0 : Int) ≤ (↑m : Int) / (64 : Int) ∧ (↑m : Int) / (64 : Int) < (↑(8 : Nat) : Int), m / 64 < (8 : Nat) ∧ (0 : Int) ≤ (↑(orN (lm Q (m / 64)) (1 * (2 : Nat) ^ (m % 64))) : Int) ∧ (↑(orN (lm Q (m / 64)) (1 * (2 : Nat) ^ (m % 64))) : Int) < (18446744073709551616 : Int), True, (-9223372036854775808 : Int) ≤ (↑m : Int) - (1 : Int) ∧ (↑m : Int) - (1 : Int) < (9223372036854775808 : Int), True]) (k' := []) (o' := .norm) (S := (byS ((m : Int) - 1))) (H := (byH Z c (byQ Q m) (byR Z R m % TOP - c))) (by kernel_rfl) (by kernel_rfl) ?_) ?_
      · simp only [conj, and_true, true_and, hval, hd0]
        omega
      · rw [hm0]
        exact fun _ _ _ h => h
    · have hd0 : byR Z R m / TOP = 1 := (Nat.div_eq_iff top_pos).2 (by omega)
      have hm0 : byR Z R m % TOP + TOP = byR Z R m := by have := Nat.div_add_mod (byR Z R m) TOP; rw [hd0] at this; omega
      refine Goes.mono (goes (ctx_ok tabB_ok 48) mixed rfl (gs := []) (gh := []) (orc := way [(34, 1)]) (stops := []) (f := 3000) (k := [.code (roundOf 0 (bodyOf Tryd.f38))]) (o := .norm) (σ := (kn (byS (m : Int)) (byH Z c Q R))) (cs := [True, (0 : Int) ≤ (↑m : Int), True, (0 : Int) ≤ (↑m : Int) ∧ (-9223372036854775808 : Int) ≤ (↑m : Int) / (64 : Int) ∧ (↑m : Int) / (64 : Int) < (9223372036854775808 : Int), (0 : Int) ≤ (↑m : Int) / (64 : Int) ∧ (↑m : Int) / (64 : Int) < (↑(8 : Nat) : Int), m / 64 < (8 : Nat), True, (0 : Int) ≤ (↑m : Int), (0 : Int) ≤ (↑(lm Z (m / 64)) : Int) ∧ (0 : Int) ≤ (↑m : Int) % (64 : Int) ∧ (↑m : Int) % (64 : Int) < (64 : Int), (0 : Int) ≤ (↑(lm Z (m / 64) / (2 : Nat) ^ (m % 64)) : Int) ∧ (↑(lm Z (m / 64) / (2 : Nat) ^ (m % 64)) : Int) < (18446744073709551616 : Int), (↑(lm Z (m / 64) / (2 : Nat) ^ (m % 64)) : Int) % (2 : Int) = (0 : Int) ∨ (↑(lm Z (m / 64) / (2 : Nat) ^ (m % 64)) : Int) % (2 : Int) = (1 : Int), True, True, (↑(((2 : Nat) * R + lm Z (m / 64) / (2 : Nat) ^ (m % 64) % 2) / TOP) : Int) ≠ (0 : Int), True, True, True, True, True, True, True, True, ((2 : Nat) * R + lm Z (m / 64) / (2 : Nat) ^ (m % 64) % 2) % TOP < c, True, True, True, True, True, (0 : Int) ≤ (↑m : Int) ∧ (-9223372036854775808 : Int) ≤ (↑m : Int) / (64 : Int) ∧ (↑m : Int) / (64 : Int) < (9223372036854775808 : Int), (0 : Int) ≤ (↑m : Int) / (64 : Int) ∧ (↑m : Int) / (64 : Int) < (↑(8 : Nat) : Int), m / 64 < (8 : Nat), True, (0 : Int) ≤ (↑m : Int), (0 : Int) ≤ (1 : Int) ∧ (0 : Int) ≤ (↑m : Int) % (64 : Int) ∧ (↑m : Int) % (64 : Int) < (64 : Int) ∧ (0 : Int) ≤ (↑(1 * (2 : Nat) ^ (m % 64)) : Int) ∧ (↑(1 * (2 : Nat) ^ (m % 64)) : Int) < (18446744073709551616 : Int), ((0 : Int) ≤ (↑(lm Q (m / 64)) : Int) ∧ (↑(lm Q (m / 64)) : Int) < (18446744073709551616 : Int)) ∧ (0 : Int) ≤ (↑(1 * (2 : Nat) ^ (m % 64)) : Int) ∧ (↑(1 * (2 : Nat) ^ (m % 64)) : Int) < (18446744073709551616 : Int), (0 : Int) ≤ (↑m : Int) / (64 : Int) ∧ (↑m : Int) / (64 : Int) < (↑(8 : Nat) : Int), m / 64 < (8 : Nat) ∧ (0 : Int) ≤ (↑(orN (lm Q (m / 64)) (1 * (2 : Nat) ^ (m % 64))) : Int) ∧ (↑(orN (lm Q (m / 64)) (1 * (2 : Nat) ^ (m % 64))) : Int) < (18446744073709551616 : Int), True, (-9223372036854775808 : Int) ≤ (↑m : Int) - (1 : Int) ∧ (↑m : Int) - (1 : Int) < (9223372036854775808 : Int), True]) (k' := []) (o' := .norm) (S := (byS ((m : Int) - 1))) (H := (byH Z c (byQ Q m) (byR Z R m % TOP + TOP - c))) (by kernel_rfl) (by kernel_rfl) ?_) ?_
      · simp only [conj, and_true, true_and, hval, hd0]
        omega
      · rw [hm0]
        exact fun _ _ _ h => h

theorem by_goes {w0 : Base} {Z c : Nat} (hZ : Z < pow64 8) (h0 : 0 < c) (hc : c < TOP) : Goes Tryd.prog Tryd.f38.ntmps w0 [.code (bodyOf Tryd.f38)] .norm (kn (byA Z c) [])
    (Fin (ctx tabB 48) Tryd.f38.results.toList fun v _ => v = .tup [[.big 8 (Z / c)], [.big 4 (Z % c)]]) := by
  refine (goes (ctx_ok tabB_ok 48) mixed rfl (gs := [8]) (gh := []) (orc := way []) (stops := [0]) (f := 3000) (k := [.code (bodyOf Tryd.f38)]) (o := .norm) (σ := (kn (byA Z c) [])) (cs := [True, True, True, True, True, True, True]) (k' := (kOf 0 (bodyOf Tryd.f38))) (o' := .norm) (S := (byS 511)) (H := (byH Z c 0 0)) (by kernel_rfl) (by kernel_rfl) (by simp [conj])).bind ?_
  rintro k o σ ⟨rfl, rfl, rfl⟩
  have hk : kOf 0 (bodyOf Tryd.f38) = .code (.block 0 (.loop (roundOf 0 (bodyOf Tryd.f38)))) :: restOf 0 (bodyOf Tryd.f38) := by kernel_rfl
  rw [hk]
  refine (goes_loop (fun p : Int × Nat × Nat => kn (byS p.1) (byH Z c p.2.1 p.2.2)) (byI Z c) (fun p => (p.1 + 1).toNat) (fun o σ => o = .norm ∧ σ = kn (byS (-1)) (byH Z c (Z / c) (Z % c))) ?_ (p := (511, 0, 0))
    (byI_start hZ)).bind ?_
  · rintro ⟨i, Q, R⟩ hI
    have h1 : -1 ≤ i := hI.1
    have h2 : i ≤ 511 := hI.2.1
    by_cases hi : i < 0
    · obtain rfl : i = -1 := by omega
      obtain ⟨_, _, _, h4, h5⟩ := hI
      have e0 : ((-1 : Int) + 1).toNat = 0 := rfl
      simp only [e0, Nat.pow_zero, Nat.div_one, Nat.mul_one] at h4 h5
      subst h4 h5
      refine (goes (ctx_ok tabB_ok 48) mixed rfl (gs := []) (gh := []) (orc := way [(11, 1)]) (stops := []) (f := 3000) (k := [.code (roundOf 0 (bodyOf Tryd.f38))]) (o := .norm) (σ := (kn (byS (-1)) (byH Z c (Z / c) (Z % c)))) (cs := [True, ¬(0 : Int) ≤ (-1 : Int)]) (k' := []) (o' := (.exit 0)) (S := (byS (-1))) (H := (byH Z c (Z / c) (Z % c))) (by kernel_rfl) (by kernel_rfl) (by simp [conj])).mono ?_
      rintro k o σ ⟨rfl, rfl, rfl⟩
      exact ⟨rfl, .inr ⟨by simp, rfl, rfl⟩⟩
    · obtain ⟨m, rfl⟩ := Int.eq_ofNat_of_zero_le (Int.not_lt.1 hi)
      obtain ⟨Q', R', h3, h4⟩ := by_round (w0 := w0) h0 hc (by omega) hI
      refine h4.mono ?_
      rintro k o σ ⟨rfl, rfl, rfl⟩
      exact ⟨rfl, .inl ⟨rfl, _, h3, by show ((m : Int) - 1 + 1).toNat < ((m : Int) + 1).toNat; omega, rfl⟩⟩
  · rintro k o σ ⟨rfl, rfl, rfl⟩
    exact goes_ret (ctx_ok tabB_ok 48) mixed rfl (orc := way []) (stops := []) (f := 3000) (k := (restOf 0 (bodyOf Tryd.f38))) (o := .norm) (σ := (kn (byS (-1)) (byH Z c (Z / c) (Z % c)))) (cs := [True, True, True, True]) (o' := .ret) (rs := Tryd.f38.results.toList) (v := (.tup [[.big 8 (Z / c)], [.big 4 (Z % c)]])) (H := []) (by kernel_rfl) (.inr rfl) (by simp [conj]) fun _ _ => rfl

end M
end Go.Proofs.YtmjdmhelmgcanaaDoor

/- Small closers for the machine's contracts. -/
namespace Go.Proofs.YtmjdmhelmgcanaaDoor
namespace M
open Go.RowKit

theorem argsP_nil {p : Av → Prop} : ∀ l ∈ ([] : List (List Av)), ∀ a ∈ l, p a := fun _ h => by cases h
theorem argsP_cons {p : Av → Prop} {l : List Av} {r : List (List Av)} (h : ∀ a ∈ l, p a) (hr : ∀ m ∈ r, ∀ a ∈ m, p a) : ∀ m ∈ l :: r, ∀ a ∈ m, p a := fun m hm => by
  rcases List.mem_cons.1 hm with rfl | hm
  · exact h
  · exact hr m hm
theorem tupP {p : Av → Prop} {ls : List (List Av)} (h : ∀ m ∈ ls, ∀ a ∈ m, p a) : (Sv.tup ls).all p := h
theorem oneP {p : Av → Prop} {l : List Av} (h : ∀ a ∈ l, p a) : (Sv.one l).all p := h
theorem N_plain2 {x y : Nat} (hx : x < TOP) (hy : y < TOP) : ∀ a ∈ [Av.big 4 x, Av.big 4 y], a.plain := by
  intro a ha
  simp only [List.mem_cons, List.not_mem_nil, or_false] at ha
  rcases ha with rfl | rfl
  · exact N_plain hx _ List.mem_cons_self
  · exact N_plain hy _ List.mem_cons_self
theorem lit_plain (k : IntKind) (n : Int) : ∀ a ∈ [Av.lit k n], a.plain := fun a ha => by simp only [List.mem_singleton] at ha; subst ha; trivial

end M
end Go.Proofs.YtmjdmhelmgcanaaDoor

/- num's product, its lower half, the division, as the machine's contracts; Mul and MulDiv. -/
namespace Go.Proofs.YtmjdmhelmgcanaaDoor
namespace M
open Go.RowKit

def W (z : Nat) : List Av := [.big 8 z]
def lowK : PCon
  | [[.big 8 z]] => some [(z < TOP, .tup [N z, E 0]), (TOP ≤ z, .tup [N 0, E 2])]
  | _ => none
def byK : PCon
  | [[.big 8 z], [.big 4 c]] => some [(0 < c, .tup [W (z / c), N (z % c)])]
  | _ => none
def smallK : PCon
  | [[.lit .u64 n]] => some [(0 ≤ n ∧ n < 18446744073709551616, .one (N n.toNat))]
  | [[.int .u64 n]] => some [(0 ≤ n ∧ n < 18446744073709551616, .one (N n.toNat))]
  | _ => none
def eTimes : Entry := ⟨35, 0, pcon (k2 fun x y => [(True, .one (W (x * y)))])⟩
def eLow : Entry := ⟨36, 0, pcon lowK⟩
def eBy : Entry := ⟨38, 0, pcon byK⟩
def eNOf : Entry := ⟨16, 0, pcon smallK⟩
def tabT : List Entry := eTimes :: eLow :: eBy :: eNOf :: tabA

theorem denL_W (ρ : Env) (z : Nat) : denL ρ (W z) = PV z := by rw [PV_parts]; simp [W, denL, Av.val, words]
theorem pow64_8 : pow64 8 = TOP * TOP := by
  show (18446744073709551616 : Nat) ^ 8 = TOP * TOP
  rw [← top_pow, ← Nat.pow_add]
theorem W_plain {z : Nat} (h : z < TOP * TOP) : ∀ a ∈ W z, a.plain := by
  intro a ha
  simp only [W, List.mem_singleton] at ha
  subst ha
  show z < pow64 8
  rw [pow64_8]
  exact h
theorem W_lt {args : List (List Av)} (h : ∀ A ∈ args, ∀ a ∈ A, a.name = none → a.plain) {x : Nat} (hx : [Av.big 8 x] ∈ args) : x < TOP * TOP := by
  rw [← pow64_8]
  exact h _ hx (.big 8 x) List.mem_cons_self rfl

theorem times_e : EOK eTimes := by
  refine k2_ok (fun a w => Tryd.call35 a w) fun x y hx hy p hp hc => ?_
  simp only [List.mem_cons, List.not_mem_nil, or_false] at hp
  subst hp
  refine ⟨W_plain (Nat.mul_lt_mul_of_lt_of_lt hx hy), fun ρ w => ?_⟩
  simp only [List.map_cons, List.map_nil, denL_num]
  refine (times_calls x y hx hy w).mono ?_
  rintro e w' ⟨rfl, hb⟩
  exact ⟨hb, by simp only [Sv.den, denL_W]⟩
theorem low_e : EOK eLow := by
  refine pcon_ok (fun a w => Tryd.call36 a w) fun args l hl ha p hp hc => ?_
  unfold lowK at hl
  split at hl
  · rename_i z
    have hz := W_lt ha (x := z) (by simp)
    cases hl
    simp only [List.mem_cons, List.not_mem_nil, or_false] at hp
    rcases hp with rfl | rfl
    · refine ⟨plain2 hc (E_plain _), fun ρ w => ?_⟩
      show Calls Tryd.prog 36 (#[denL ρ (W z)]) w _
      rw [denL_W]
      refine (low_calls z hz w).mono ?_
      rintro e w' ⟨rfl, hb⟩
      have hc' : z < TOP := hc
      exact ⟨hb, by simp only [if_pos hc', Sv.den, List.map_cons, List.map_nil, denL_num]; rfl⟩
    · refine ⟨plain2 top_pos (E_plain _), fun ρ w => ?_⟩
      show Calls Tryd.prog 36 (#[denL ρ (W z)]) w _
      rw [denL_W]
      refine (low_calls z hz w).mono ?_
      rintro e w' ⟨rfl, hb⟩
      have hn : ¬ z < TOP := Nat.not_lt.2 hc
      exact ⟨hb, by simp only [if_neg hn, Sv.den, List.map_cons, List.map_nil, denL_num]; rfl⟩
  · cases hl
theorem by_e : EOK eBy := by
  refine pcon_ok (fun a w => Tryd.call38 a w) fun args l hl ha p hp hc => ?_
  unfold byK at hl
  split at hl
  · rename_i z c
    have hz := W_lt ha (x := z) (by simp)
    have hct := big_lt ha (x := c) (by simp)
    cases hl
    simp only [List.mem_cons, List.not_mem_nil, or_false] at hp
    subst hp
    have hc0 : 0 < c := hc
    have hq : z / c ≤ z := Nat.div_le_self _ _
    have hm : z % c < c := Nat.mod_lt _ hc0
    have hpl : (Sv.tup [W (z / c), N (z % c)]).all Av.plain := by
      intro m hm
      simp only [List.mem_cons, List.not_mem_nil, or_false] at hm
      rcases hm with rfl | rfl
      · exact W_plain (by omega)
      · exact N_plain (by omega)
    refine ⟨hpl, fun ρ w => ?_⟩
    exact pure_calls' (ctx_ok tabB_ok 48) Tryd.func38 (c := bodyOf Tryd.f38) rfl rfl (args := [W z, N c]) (Nat.le_of_ble_eq_true (by kernel_rfl)) (fun l hl => by
      simp only [List.mem_cons, List.not_mem_nil, or_false] at hl
      rcases hl with rfl | rfl
      · exact W_plain hz
      · exact N_plain hct) hpl (fun w0 => by_goes (by rw [pow64_8]; exact hz) hc0 hct) ρ w
  · cases hl
theorem small_e : EOK eNOf := by
  have key : ∀ f, (∀ args w, (callFunc f args).run Tryd.prog w = .ok (.enter f args) w) → (∀ (n : Nat) w, Calls Tryd.prog f #[.int .u64 n] w fun e w' => e = .returned (V4 n 0 0 0) ∧ Below w.heap.size w w') → EOK ⟨f, 0, pcon smallK⟩ := by
    intro f hcall h
    refine pcon_ok hcall fun args l hl ha p hp hc => ?_
    have ht := top_eq
    unfold smallK at hl
    split at hl
    all_goals
      first
        | cases hl; done
        | rename_i n
          cases hl
          simp only [List.mem_cons, List.not_mem_nil, or_false] at hp
          subst hp
          obtain ⟨h0, h1⟩ := hc
          obtain ⟨k, rfl⟩ := Int.eq_ofNat_of_zero_le h0
          refine ⟨N_plain (by rw [Int.toNat_natCast]; omega), fun ρ w => ?_⟩
          refine (h k w).mono ?_
          rintro e w' ⟨rfl, hb⟩
          refine ⟨hb, ?_⟩
          rw [den_num, Int.toNat_natCast, V_small (by omega)]
  exact key 16 (fun a w => Tryd.call16 a w) nof_calls

theorem tabT_ok : TabOK tabT := .cons times_e (.cons low_e (.cons by_e (.cons small_e tabA_ok)))


theorem mul_goes {w0 : Base} {x y : Nat} (i : Nat) (hc : if i = 0 then x * y < TOP else TOP ≤ x * y) : Goes Tryd.prog Tryd.f15.ntmps w0 [.code (bodyOf Tryd.f15)] .norm (kn (argS 0 [.one (N x), .one (N y)]) [])
    (Fin (ctx tabT 12) Tryd.f15.results.toList fun v _ => v = if i = 0 then .tup [N (x * y), E 0] else .tup [N 0, E 2]) := by
  by_cases h : i = 0
  · rw [if_pos h] at hc
    simp only [if_pos h]
    exact goes_ret (ctx_ok tabT_ok 12) mixed rfl (orc := way []) (stops := []) (f := 3000) (k := [.code (bodyOf Tryd.f15)]) (o := .norm) (σ := (kn (argS 0 [.one (N x), .one (N y)]) [])) (cs := [True, True, True, True, True, True, True, x * y < TOP, True, True, True, True]) (o' := .ret) (rs := Tryd.f15.results.toList) (v := (.tup [N (x * y), E 0])) (H := ([] : List (Nat × Bk))) (by kernel_rfl) (.inr rfl) (by simp [conj, hc]) fun _ _ => rfl
  · rw [if_neg h] at hc
    simp only [if_neg h]
    exact goes_ret (ctx_ok tabT_ok 12) mixed rfl (orc := way [(9, 1)]) (stops := []) (f := 3000) (k := [.code (bodyOf Tryd.f15)]) (o := .norm) (σ := (kn (argS 0 [.one (N x), .one (N y)]) [])) (cs := [True, True, True, True, True, True, True, TOP ≤ x * y, True, True, True, True]) (o' := .ret) (rs := Tryd.f15.results.toList) (v := (.tup [N 0, E 2])) (H := ([] : List (Nat × Bk))) (by kernel_rfl) (.inr rfl) (by simp [conj, hc]) fun _ _ => rfl

end M
end Go.Proofs.YtmjdmhelmgcanaaDoor

/- num.Mul, num.MulDiv. -/
namespace Go.Proofs.YtmjdmhelmgcanaaDoor
namespace M
open Go.RowKit
set_option linter.unusedSimpArgs false

def mulC (x y : Nat) : List (Prop × Sv) := [(x * y < TOP, .tup [N (x * y), E 0]), (TOP ≤ x * y, .tup [N 0, E 2])]
def eMul : Entry := ⟨15, 0, pcon (k2 mulC)⟩
/-- a division, rounded up -/
def up (a c : Nat) : Nat := (a + (c - 1)) / c
def mdF (x y z : Nat) : List (Prop × Sv) := [(0 < z ∧ x * y / z < TOP, .tup [N (x * y / z), E 0]), (0 < z ∧ TOP ≤ x * y / z, .tup [N 0, E 2]), (z = 0, .tup [N 0, E 1])]
def mdT (x y z : Nat) : List (Prop × Sv) := [(0 < z ∧ up (x * y) z < TOP, .tup [N (up (x * y) z), E 0]), (0 < z ∧ TOP ≤ up (x * y) z, .tup [N 0, E 2]), (z = 0, .tup [N 0, E 1])]
def mdK : PCon
  | [[.big 4 x], [.big 4 y], [.big 4 z], [.bool true]] => some (mdT x y z)
  | [[.big 4 x], [.big 4 y], [.big 4 z], [.bool false]] => some (mdF x y z)
  | _ => none
def eMulDiv : Entry := ⟨18, 0, pcon mdK⟩
def tabM : List Entry := eMul :: eMulDiv :: tabT

theorem up_zero {a c : Nat} (h0 : 0 < c) (h : a % c = 0) : up a c = a / c := by
  unfold up
  have h1 := Nat.div_add_mod a c
  rw [h, Nat.add_zero] at h1
  rw [Nat.add_comm, ← h1, Nat.add_mul_div_left _ _ h0, Nat.mul_div_cancel_left _ h0, Nat.div_eq_of_lt (by omega), Nat.zero_add]
theorem up_more {a c : Nat} (h0 : 0 < c) (h : a % c ≠ 0) : up a c = a / c + 1 := by
  unfold up
  have h1 := Nat.div_add_mod a c
  have h2 := Nat.mod_lt a h0
  have e : a + (c - 1) = (a % c - 1) + c * (a / c + 1) := by rw [Nat.mul_add, Nat.mul_one]; omega
  rw [e, Nat.add_mul_div_left _ _ h0, Nat.div_eq_of_lt (by omega), Nat.zero_add]

theorem mul_owes {x y : Nat} (hx : x < TOP) (hy : y < TOP) :
    Owes 15 [N x, N y] [(x * y < TOP, .tup [N (x * y), E 0]), (TOP ≤ x * y, .tup [N 0, E 2])] := by
  have ht := top_eq
  intro p0 hp0 hc
  simp only [List.mem_cons, List.not_mem_nil, or_false] at hp0
  rcases hp0 with rfl | rfl
  · have hc' : x * y < TOP := hc
    have hpl : (.tup [N (x * y), E 0] : Sv).all Av.plain := by ((first | refine tupP ?_ | refine oneP ?_) <;> first | (first | exact E_plain _ | exact B_plain _ | exact lit_plain _ _ | exact int_plain _ _ | exact N_plain (by omega) | exact N_plain2 (by omega) (by omega) | assumption) | ((repeat' (first | exact argsP_nil | refine argsP_cons ?_ ?_)) <;> (first | exact E_plain _ | exact B_plain _ | exact lit_plain _ _ | exact int_plain _ _ | exact N_plain (by omega) | exact N_plain2 (by omega) (by omega) | assumption)))
    refine ⟨hpl, pure_calls' (ctx_ok tabT_ok 12) Tryd.func15 (c := bodyOf Tryd.f15) rfl rfl (args := [N x, N y]) (Nat.le_of_ble_eq_true (by kernel_rfl)) (by ((repeat' (first | exact argsP_nil | refine argsP_cons ?_ ?_)) <;> (first | exact E_plain _ | exact B_plain _ | exact lit_plain _ _ | exact int_plain _ _ | exact N_plain (by omega) | exact N_plain2 (by omega) (by omega) | assumption))) hpl (fun w0 => ?_)⟩
    exact goes_ret (ctx_ok tabT_ok 12) mixed rfl (orc := way []) (stops := []) (f := 3000) (k := [.code (bodyOf Tryd.f15)]) (o := .norm) (σ := (kn (argS 0 ([N x, N y].map .one)) [])) (cs := [True, True, True, True, True, True, True, x * y < TOP, True, True, True, True]) (o' := .ret) (rs := Tryd.f15.results.toList) (v := (.tup [N (x * y), E 0])) (H := ([] : List (Nat × Bk))) (by kernel_rfl) (.inr rfl) (by ((simp only [conj, and_true, true_and, and_self, cmp_lt0, cmp_le0, cmp_ge0, cmp_gt0, reduceCtorEq, not_false_eq_true]) <;> first | omega | (simp_all; done) | (simp_all; omega))) fun _ _ => rfl
  · have hc' : TOP ≤ x * y := hc
    have hpl : (.tup [N 0, E 2] : Sv).all Av.plain := by ((first | refine tupP ?_ | refine oneP ?_) <;> first | (first | exact E_plain _ | exact B_plain _ | exact lit_plain _ _ | exact int_plain _ _ | exact N_plain (by omega) | exact N_plain2 (by omega) (by omega) | assumption) | ((repeat' (first | exact argsP_nil | refine argsP_cons ?_ ?_)) <;> (first | exact E_plain _ | exact B_plain _ | exact lit_plain _ _ | exact int_plain _ _ | exact N_plain (by omega) | exact N_plain2 (by omega) (by omega) | assumption)))
    refine ⟨hpl, pure_calls' (ctx_ok tabT_ok 12) Tryd.func15 (c := bodyOf Tryd.f15) rfl rfl (args := [N x, N y]) (Nat.le_of_ble_eq_true (by kernel_rfl)) (by ((repeat' (first | exact argsP_nil | refine argsP_cons ?_ ?_)) <;> (first | exact E_plain _ | exact B_plain _ | exact lit_plain _ _ | exact int_plain _ _ | exact N_plain (by omega) | exact N_plain2 (by omega) (by omega) | assumption))) hpl (fun w0 => ?_)⟩
    exact goes_ret (ctx_ok tabT_ok 12) mixed rfl (orc := way [(9, 1)]) (stops := []) (f := 3000) (k := [.code (bodyOf Tryd.f15)]) (o := .norm) (σ := (kn (argS 0 ([N x, N y].map .one)) [])) (cs := [True, True, True, True, True, True, True, TOP ≤ x * y, True, True, True, True]) (o' := .ret) (rs := Tryd.f15.results.toList) (v := (.tup [N 0, E 2])) (H := ([] : List (Nat × Bk))) (by kernel_rfl) (.inr rfl) (by ((simp only [conj, and_true, true_and, and_self, cmp_lt0, cmp_le0, cmp_ge0, cmp_gt0, reduceCtorEq, not_false_eq_true]) <;> first | omega | (simp_all; done) | (simp_all; omega))) fun _ _ => rfl

theorem mul_e : EOK eMul := k2_ok (fun a w => Tryd.call15 a w) fun _ _ hx hy => mul_owes hx hy

theorem mdF_owes {x y z : Nat} (hx : x < TOP) (hy : y < TOP) (hz : z < TOP) :
    Owes 18 [N x, N y, N z, B false] [(0 < z ∧ x * y / z < TOP, .tup [N (x * y / z), E 0]), (0 < z ∧ TOP ≤ x * y / z, .tup [N 0, E 2]), (z = 0, .tup [N 0, E 1])] := by
  have ht := top_eq
  intro p0 hp0 hc
  simp only [List.mem_cons, List.not_mem_nil, or_false] at hp0
  rcases hp0 with rfl | rfl | rfl
  · have hc' : 0 < z ∧ x * y / z < TOP := hc
    have hpl : (.tup [N (x * y / z), E 0] : Sv).all Av.plain := by ((first | refine tupP ?_ | refine oneP ?_) <;> first | (first | exact E_plain _ | exact B_plain _ | exact lit_plain _ _ | exact int_plain _ _ | exact N_plain (by omega) | exact N_plain2 (by omega) (by omega) | assumption) | ((repeat' (first | exact argsP_nil | refine argsP_cons ?_ ?_)) <;> (first | exact E_plain _ | exact B_plain _ | exact lit_plain _ _ | exact int_plain _ _ | exact N_plain (by omega) | exact N_plain2 (by omega) (by omega) | assumption)))
    refine ⟨hpl, pure_calls' (ctx_ok tabT_ok 48) Tryd.func18 (c := bodyOf Tryd.f18) rfl rfl (args := [N x, N y, N z, B false]) (Nat.le_of_ble_eq_true (by kernel_rfl)) (by ((repeat' (first | exact argsP_nil | refine argsP_cons ?_ ?_)) <;> (first | exact E_plain _ | exact B_plain _ | exact lit_plain _ _ | exact int_plain _ _ | exact N_plain (by omega) | exact N_plain2 (by omega) (by omega) | assumption))) hpl (fun w0 => ?_)⟩
    exact goes_ret (ctx_ok tabT_ok 48) mixed rfl (orc := way [(16, 1)]) (stops := []) (f := 3000) (k := [.code (bodyOf Tryd.f18)]) (o := .norm) (σ := (kn (argS 0 ([N x, N y, N z, B false].map .one)) [])) (cs := [True, True, True, True, True, True, True, ¬z = (0 : Nat), True, True, True, True, (0 : Nat) < z, True, True, True, True, True, True, True, True, x * y / z < TOP, True, True, True, True, True, True, True, True, True, True, True, True, True, True, True, True, True, True, True, True]) (o' := .ret) (rs := Tryd.f18.results.toList) (v := (.tup [N (x * y / z), E 0])) (H := ([] : List (Nat × Bk))) (by kernel_rfl) (.inr rfl) (by ((simp only [conj, and_true, true_and, and_self, cmp_lt0, cmp_le0, cmp_ge0, cmp_gt0, reduceCtorEq, not_false_eq_true]) <;> first | omega | (simp_all; done) | (simp_all; omega))) fun _ _ => rfl
  · have hc' : 0 < z ∧ TOP ≤ x * y / z := hc
    have hpl : (.tup [N 0, E 2] : Sv).all Av.plain := by ((first | refine tupP ?_ | refine oneP ?_) <;> first | (first | exact E_plain _ | exact B_plain _ | exact lit_plain _ _ | exact int_plain _ _ | exact N_plain (by omega) | exact N_plain2 (by omega) (by omega) | assumption) | ((repeat' (first | exact argsP_nil | refine argsP_cons ?_ ?_)) <;> (first | exact E_plain _ | exact B_plain _ | exact lit_plain _ _ | exact int_plain _ _ | exact N_plain (by omega) | exact N_plain2 (by omega) (by omega) | assumption)))
    refine ⟨hpl, pure_calls' (ctx_ok tabT_ok 48) Tryd.func18 (c := bodyOf Tryd.f18) rfl rfl (args := [N x, N y, N z, B false]) (Nat.le_of_ble_eq_true (by kernel_rfl)) (by ((repeat' (first | exact argsP_nil | refine argsP_cons ?_ ?_)) <;> (first | exact E_plain _ | exact B_plain _ | exact lit_plain _ _ | exact int_plain _ _ | exact N_plain (by omega) | exact N_plain2 (by omega) (by omega) | assumption))) hpl (fun w0 => ?_)⟩
    exact goes_ret (ctx_ok tabT_ok 48) mixed rfl (orc := way [(16, 1), (28, 1)]) (stops := []) (f := 3000) (k := [.code (bodyOf Tryd.f18)]) (o := .norm) (σ := (kn (argS 0 ([N x, N y, N z, B false].map .one)) [])) (cs := [True, True, True, True, True, True, True, ¬z = (0 : Nat), True, True, True, True, (0 : Nat) < z, True, True, True, True, True, True, True, True, TOP ≤ x * y / z, True, True, True, True, True, True, True, True, True, True, True, True, True, True, True, True, True, True, True, True]) (o' := .ret) (rs := Tryd.f18.results.toList) (v := (.tup [N 0, E 2])) (H := ([] : List (Nat × Bk))) (by kernel_rfl) (.inr rfl) (by ((simp only [conj, and_true, true_and, and_self, cmp_lt0, cmp_le0, cmp_ge0, cmp_gt0, reduceCtorEq, not_false_eq_true]) <;> first | omega | (simp_all; done) | (simp_all; omega))) fun _ _ => rfl
  · have hc' : z = 0 := hc
    have hpl : (.tup [N 0, E 1] : Sv).all Av.plain := by ((first | refine tupP ?_ | refine oneP ?_) <;> first | (first | exact E_plain _ | exact B_plain _ | exact lit_plain _ _ | exact int_plain _ _ | exact N_plain (by omega) | exact N_plain2 (by omega) (by omega) | assumption) | ((repeat' (first | exact argsP_nil | refine argsP_cons ?_ ?_)) <;> (first | exact E_plain _ | exact B_plain _ | exact lit_plain _ _ | exact int_plain _ _ | exact N_plain (by omega) | exact N_plain2 (by omega) (by omega) | assumption)))
    refine ⟨hpl, pure_calls' (ctx_ok tabT_ok 48) Tryd.func18 (c := bodyOf Tryd.f18) rfl rfl (args := [N x, N y, N z, B false]) (Nat.le_of_ble_eq_true (by kernel_rfl)) (by ((repeat' (first | exact argsP_nil | refine argsP_cons ?_ ?_)) <;> (first | exact E_plain _ | exact B_plain _ | exact lit_plain _ _ | exact int_plain _ _ | exact N_plain (by omega) | exact N_plain2 (by omega) (by omega) | assumption))) hpl (fun w0 => ?_)⟩
    exact goes_ret (ctx_ok tabT_ok 48) mixed rfl (orc := way []) (stops := []) (f := 3000) (k := [.code (bodyOf Tryd.f18)]) (o := .norm) (σ := (kn (argS 0 ([N x, N y, N z, B false].map .one)) [])) (cs := [True, True, True, True, True, True, True, z = (0 : Nat), True, True, True]) (o' := .ret) (rs := Tryd.f18.results.toList) (v := (.tup [N 0, E 1])) (H := ([] : List (Nat × Bk))) (by kernel_rfl) (.inr rfl) (by ((simp only [conj, and_true, true_and, and_self, cmp_lt0, cmp_le0, cmp_ge0, cmp_gt0, reduceCtorEq, not_false_eq_true]) <;> first | omega | (simp_all; done) | (simp_all; omega))) fun _ _ => rfl

theorem mdT_owes {x y z : Nat} (hx : x < TOP) (hy : y < TOP) (hz : z < TOP) :
    Owes 18 [N x, N y, N z, B true] [(0 < z ∧ up (x * y) z < TOP, .tup [N (up (x * y) z), E 0]), (0 < z ∧ TOP ≤ up (x * y) z, .tup [N 0, E 2]), (z = 0, .tup [N 0, E 1])] := by
  have ht := top_eq
  intro p0 hp0 hc
  simp only [List.mem_cons, List.not_mem_nil, or_false] at hp0
  rcases hp0 with rfl | rfl | rfl
  · have hc' : 0 < z ∧ up (x * y) z < TOP := hc
    have hpl : (.tup [N (up (x * y) z), E 0] : Sv).all Av.plain := by ((first | refine tupP ?_ | refine oneP ?_) <;> first | (first | exact E_plain _ | exact B_plain _ | exact lit_plain _ _ | exact int_plain _ _ | exact N_plain (by omega) | exact N_plain2 (by omega) (by omega) | assumption) | ((repeat' (first | exact argsP_nil | refine argsP_cons ?_ ?_)) <;> (first | exact E_plain _ | exact B_plain _ | exact lit_plain _ _ | exact int_plain _ _ | exact N_plain (by omega) | exact N_plain2 (by omega) (by omega) | assumption)))
    refine ⟨hpl, pure_calls' (ctx_ok tabT_ok 48) Tryd.func18 (c := bodyOf Tryd.f18) rfl rfl (args := [N x, N y, N z, B true]) (Nat.le_of_ble_eq_true (by kernel_rfl)) (by ((repeat' (first | exact argsP_nil | refine argsP_cons ?_ ?_)) <;> (first | exact E_plain _ | exact B_plain _ | exact lit_plain _ _ | exact int_plain _ _ | exact N_plain (by omega) | exact N_plain2 (by omega) (by omega) | assumption))) hpl (fun w0 => ?_)⟩
    by_cases h : x * y % z = 0
    · skip
      rw [up_zero hc'.1 h] at hc' ⊢
      exact goes_ret (ctx_ok tabT_ok 48) mixed rfl (orc := way [(16, 1)]) (stops := []) (f := 3000) (k := [.code (bodyOf Tryd.f18)]) (o := .norm) (σ := (kn (argS 0 ([N x, N y, N z, B true].map .one)) [])) (cs := [True, True, True, True, True, True, True, ¬z = (0 : Nat), True, True, True, True, (0 : Nat) < z, True, True, True, True, True, True, True, True, x * y / z < TOP, True, True, True, True, True, True, True, True, True, True, True, True, True, True, x * y % z = (0 : Nat), True, True, True, True, True]) (o' := .ret) (rs := Tryd.f18.results.toList) (v := (.tup [N (x * y / z), E 0])) (H := ([] : List (Nat × Bk))) (by kernel_rfl) (.inr rfl) (by ((simp only [conj, and_true, true_and, and_self, cmp_lt0, cmp_le0, cmp_ge0, cmp_gt0, reduceCtorEq, not_false_eq_true]) <;> first | omega | (simp_all; done) | (simp_all; omega))) fun _ _ => rfl
    · skip
      rw [up_more hc'.1 h] at hc' ⊢
      exact goes_ret (ctx_ok tabT_ok 48) mixed rfl (orc := way [(16, 1), (39, 1)]) (stops := []) (f := 3000) (k := [.code (bodyOf Tryd.f18)]) (o := .norm) (σ := (kn (argS 0 ([N x, N y, N z, B true].map .one)) [])) (cs := [True, True, True, True, True, True, True, ¬z = (0 : Nat), True, True, True, True, (0 : Nat) < z, True, True, True, True, True, True, True, True, x * y / z < TOP, True, True, True, True, True, True, True, True, True, True, True, True, True, True, ¬x * y % z = (0 : Nat), True, True, (0 : Int) ≤ (1 : Int) ∧ (1 : Int) < (18446744073709551616 : Int), x * y / z + 1 < TOP, True, True, True, True]) (o' := .ret) (rs := Tryd.f18.results.toList) (v := (.tup [N (x * y / z + 1), E 0])) (H := ([] : List (Nat × Bk))) (by kernel_rfl) (.inr rfl) (by ((simp only [conj, and_true, true_and, and_self, cmp_lt0, cmp_le0, cmp_ge0, cmp_gt0, reduceCtorEq, not_false_eq_true]) <;> first | omega | (simp_all; done) | (simp_all; omega))) fun _ _ => rfl
  · have hc' : 0 < z ∧ TOP ≤ up (x * y) z := hc
    have hpl : (.tup [N 0, E 2] : Sv).all Av.plain := by ((first | refine tupP ?_ | refine oneP ?_) <;> first | (first | exact E_plain _ | exact B_plain _ | exact lit_plain _ _ | exact int_plain _ _ | exact N_plain (by omega) | exact N_plain2 (by omega) (by omega) | assumption) | ((repeat' (first | exact argsP_nil | refine argsP_cons ?_ ?_)) <;> (first | exact E_plain _ | exact B_plain _ | exact lit_plain _ _ | exact int_plain _ _ | exact N_plain (by omega) | exact N_plain2 (by omega) (by omega) | assumption)))
    refine ⟨hpl, pure_calls' (ctx_ok tabT_ok 48) Tryd.func18 (c := bodyOf Tryd.f18) rfl rfl (args := [N x, N y, N z, B true]) (Nat.le_of_ble_eq_true (by kernel_rfl)) (by ((repeat' (first | exact argsP_nil | refine argsP_cons ?_ ?_)) <;> (first | exact E_plain _ | exact B_plain _ | exact lit_plain _ _ | exact int_plain _ _ | exact N_plain (by omega) | exact N_plain2 (by omega) (by omega) | assumption))) hpl (fun w0 => ?_)⟩
    have hs : TOP ≤ x * y / z ∨ (x * y / z < TOP ∧ x * y % z ≠ 0 ∧ TOP ≤ x * y / z + 1) := by
      by_cases h : x * y % z = 0
      · rw [up_zero hc'.1 h] at hc'; omega
      · rw [up_more hc'.1 h] at hc'; omega
    rcases hs with h | h
    · skip
      exact goes_ret (ctx_ok tabT_ok 48) mixed rfl (orc := way [(16, 1), (28, 1)]) (stops := []) (f := 3000) (k := [.code (bodyOf Tryd.f18)]) (o := .norm) (σ := (kn (argS 0 ([N x, N y, N z, B true].map .one)) [])) (cs := [True, True, True, True, True, True, True, ¬z = (0 : Nat), True, True, True, True, (0 : Nat) < z, True, True, True, True, True, True, True, True, TOP ≤ x * y / z, True, True, True, True, True, True, True, True, True, True, True, True, True, True, True, True, True, True, True, True]) (o' := .ret) (rs := Tryd.f18.results.toList) (v := (.tup [N 0, E 2])) (H := ([] : List (Nat × Bk))) (by kernel_rfl) (.inr rfl) (by ((simp only [conj, and_true, true_and, and_self, cmp_lt0, cmp_le0, cmp_ge0, cmp_gt0, reduceCtorEq, not_false_eq_true]) <;> first | omega | (simp_all; done) | (simp_all; omega))) fun _ _ => rfl
    · skip
      exact goes_ret (ctx_ok tabT_ok 48) mixed rfl (orc := way [(16, 1), (39, 1), (43, 1)]) (stops := []) (f := 3000) (k := [.code (bodyOf Tryd.f18)]) (o := .norm) (σ := (kn (argS 0 ([N x, N y, N z, B true].map .one)) [])) (cs := [True, True, True, True, True, True, True, ¬z = (0 : Nat), True, True, True, True, (0 : Nat) < z, True, True, True, True, True, True, True, True, x * y / z < TOP, True, True, True, True, True, True, True, True, True, True, True, True, True, True, ¬x * y % z = (0 : Nat), True, True, (0 : Int) ≤ (1 : Int) ∧ (1 : Int) < (18446744073709551616 : Int), TOP ≤ x * y / z + 1, True, True, True, True]) (o' := .ret) (rs := Tryd.f18.results.toList) (v := (.tup [N 0, E 2])) (H := ([] : List (Nat × Bk))) (by kernel_rfl) (.inr rfl) (by ((simp only [conj, and_true, true_and, and_self, cmp_lt0, cmp_le0, cmp_ge0, cmp_gt0, reduceCtorEq, not_false_eq_true]) <;> first | omega | (simp_all; done) | (simp_all; omega))) fun _ _ => rfl
  · have hc' : z = 0 := hc
    have hpl : (.tup [N 0, E 1] : Sv).all Av.plain := by ((first | refine tupP ?_ | refine oneP ?_) <;> first | (first | exact E_plain _ | exact B_plain _ | exact lit_plain _ _ | exact int_plain _ _ | exact N_plain (by omega) | exact N_plain2 (by omega) (by omega) | assumption) | ((repeat' (first | exact argsP_nil | refine argsP_cons ?_ ?_)) <;> (first | exact E_plain _ | exact B_plain _ | exact lit_plain _ _ | exact int_plain _ _ | exact N_plain (by omega) | exact N_plain2 (by omega) (by omega) | assumption)))
    refine ⟨hpl, pure_calls' (ctx_ok tabT_ok 48) Tryd.func18 (c := bodyOf Tryd.f18) rfl rfl (args := [N x, N y, N z, B true]) (Nat.le_of_ble_eq_true (by kernel_rfl)) (by ((repeat' (first | exact argsP_nil | refine argsP_cons ?_ ?_)) <;> (first | exact E_plain _ | exact B_plain _ | exact lit_plain _ _ | exact int_plain _ _ | exact N_plain (by omega) | exact N_plain2 (by omega) (by omega) | assumption))) hpl (fun w0 => ?_)⟩
    exact goes_ret (ctx_ok tabT_ok 48) mixed rfl (orc := way []) (stops := []) (f := 3000) (k := [.code (bodyOf Tryd.f18)]) (o := .norm) (σ := (kn (argS 0 ([N x, N y, N z, B true].map .one)) [])) (cs := [True, True, True, True, True, True, True, z = (0 : Nat), True, True, True]) (o' := .ret) (rs := Tryd.f18.results.toList) (v := (.tup [N 0, E 1])) (H := ([] : List (Nat × Bk))) (by kernel_rfl) (.inr rfl) (by ((simp only [conj, and_true, true_and, and_self, cmp_lt0, cmp_le0, cmp_ge0, cmp_gt0, reduceCtorEq, not_false_eq_true]) <;> first | omega | (simp_all; done) | (simp_all; omega))) fun _ _ => rfl

theorem muldiv_e : EOK eMulDiv := by
  refine pcon_ok (fun a w => Tryd.call18 a w) fun args l hl ha p hp => ?_
  unfold mdK at hl
  split at hl
  · rename_i x y z
    cases hl; exact mdT_owes (big_lt ha (by simp)) (big_lt ha (by simp)) (big_lt ha (by simp)) p hp
  · rename_i x y z
    cases hl; exact mdF_owes (big_lt ha (by simp)) (big_lt ha (by simp)) (big_lt ha (by simp)) p hp
  · cases hl

theorem tabM_ok : TabOK tabM := .cons mul_e (.cons muldiv_e tabT_ok)

end M
end Go.Proofs.YtmjdmhelmgcanaaDoor

/- Rows of digits for the machine: exchanged for rows of the same cells, read by calls, made by calls. -/
namespace Go.Proofs.YtmjdmhelmgcanaaDoor
namespace M
open Go.RowKit
variable {P : Program} {w w' : World} {ρ ρ' : Env} {σ σ' : Ms} {a : Act}

/-- the same blocks, but for rows whose cells are the same -/
inductive HSim : List (Nat × Bk) → List (Nat × Bk) → Prop
  | nil : HSim [] []
  | same {H H' : List (Nat × Bk)} (p : Nat × Bk) : HSim H H' → HSim (p :: H) (p :: H')
  | row {H H' : List (Nat × Bk)} {id : Nat} {o : Bool} {e : TypeId} {es n : Nat} {f g : Nat → List Av} : RowOK es n g → rowC f n = rowC g n → HSim H H' → HSim ((id, .row o e es n f) :: H) ((id, .row o e es n g) :: H')

theorem HSim.refl : ∀ H, HSim H H
  | [] => .nil
  | p :: H => .same p (HSim.refl H)

/-- a block and its like -/
def BSim (k k' : Bk) : Prop := k = k' ∨ ∃ o e es n f g, k = .row o e es n f ∧ k' = .row o e es n g ∧ RowOK es n g ∧ rowC f n = rowC g n

theorem HSim.look {H H' : List (Nat × Bk)} (h : HSim H H') (i : Nat) : (lookH H i).isSome = (lookH H' i).isSome ∧ ∀ k', lookH H' i = some k' → ∃ k, lookH H i = some k ∧ BSim k k' := by
  induction h with
  | nil => exact ⟨rfl, fun _ h => by cases h⟩
  | same p h ih =>
    obtain ⟨j, k⟩ := p
    simp only [lookH]
    cases hb : Nat.beq j i with
    | true => exact ⟨rfl, fun k' h => ⟨k', h, .inl rfl⟩⟩
    | false => exact ih
  | @row H H' id o e es n f g hg hc h ih =>
    simp only [lookH]
    cases hb : Nat.beq id i with
    | true =>
      refine ⟨rfl, fun k' h => ⟨_, rfl, ?_⟩⟩
      cases h
      exact .inr ⟨o, e, es, n, f, g, rfl, rfl, hg, hc⟩
    | false => exact ih

theorem BSim.ok {k k' : Bk} (h : BSim k k') {B : Nat → Prop} {id : Nat} (hk : BkOK ρ w B id k) : BkOK ρ w B id k' := by
  rcases h with rfl | ⟨o, e, es, n, f, g, rfl, rfl, hg, hc⟩
  · exact hk
  · cases o with
    | true =>
      obtain ⟨h1, h2, h3, h4, h5, cur, h6, h7, h8⟩ := hk
      exact ⟨hg, h2, h3, h4, h5, cur, h6, h7, by rw [← hc]; exact h8⟩
    | false =>
      obtain ⟨h1, h2, h3, h4, h5, h6⟩ := hk
      exact ⟨hg, h2, h3, h4, h5, by rw [← hc]; exact h6⟩
theorem BSim.own {k k' : Bk} (h : BSim k k') : k'.own = k.own := by
  rcases h with rfl | ⟨o, e, es, n, f, g, rfl, rfl, hg, hc⟩ <;> rfl
theorem BSim.named {k k' : Bk} (h : BSim k k') {p : Av → Prop} (hk : k.named p) : k'.named p := by
  rcases h with rfl | ⟨o, e, es, n, f, g, rfl, rfl, hg, hc⟩
  · exact hk
  · trivial

theorem goes_sim {nt : Nat} {w0 : Base} {k : List Fr} {o : Out} {S : List (Nat × Sv)} {H H' : List (Nat × Bk)} {Z : List Fr → Out → Ms → Prop} (h : HSim H H') (g : Goes P nt w0 k o (kn S H') Z) : Goes P nt w0 k o (kn S H) Z := by
  intro Q hQ ρ a w hr
  have hsome : ∀ i, (lookH H i).isSome = (lookH H' i).isSome := fun i => (h.look i).1
  have hdom : (kn S H').dom = (kn S H).dom := by
    funext i
    show (Nat.ble 1000 i || (lookH H' i).isSome) = (Nat.ble 1000 i || (lookH H i).isSome)
    rw [hsome i]
  have hav : ∀ {x : Av}, AvOK (kn S H) x → AvOK (kn S H') x := fun hx => hx.mono (fun i hi => by rw [hdom]; exact hi) (fun i hi => by
    show (lookH H' i).isSome = true
    rw [← hsome i]; exact hi)
  refine g Q hQ ρ a w ⟨hr.size, hr.defers, hr.slots, hr.below, fun id k hk => ?_, fun i j ki kj hi hj h1 h2 he => ?_, fun i => Sv.all_mono (fun _ hx => hav hx) (hr.okS i), fun id k hk => ?_, fun id hid => ?_, fun i hi => ?_⟩
  · obtain ⟨k0, h0, hs⟩ := (h.look id).2 k hk
    exact hs.ok (hr.blocks id k0 h0)
  · obtain ⟨ki0, hi0, hsi⟩ := (h.look i).2 ki hi
    obtain ⟨kj0, hj0, hsj⟩ := (h.look j).2 kj hj
    exact hr.inj i j ki0 kj0 hi0 hj0 (by rw [← hsi.own]; exact h1) (by rw [← hsj.own]; exact h2) he
  · obtain ⟨k0, h0, hs⟩ := (h.look id).2 k hk
    have h3 := hr.okH id k0 h0
    refine hs.named (?_ : k0.named (AvOK (kn S H')))
    cases k0 with
    | var l t => exact fun x hx => hav (h3 x hx)
    | arr l t => exact fun x hx => hav (h3 x hx)
    | sit _ _ => trivial
    | row _ _ _ _ _ => trivial
    | dead => trivial
  · rw [hdom]
    refine hr.hdom id ?_
    show (lookH H id).isSome = true
    rw [hsome id]; exact hid
  · rw [hdom]; exact hr.names i hi

/-! ## Digits -/

def rd1 : List Av → Nat
  | [.int .u64 v] => v.toNat
  | [.lit .u64 v] => v.toNat
  | _ => 0
def rd (f : Nat → List Av) (i : Nat) : Nat := rd1 (f i)
/-- n digits, below b -/
def digs (f : Nat → List Av) (n b : Nat) : Prop := ∀ i, i < n → f i = [.int .u64 (rd f i : Nat)] ∧ rd f i < b

theorem rd_rowN (F : Nat → Nat) : rd (rowN F) = F := by funext i; simp [rd, rowN, rd1]
theorem digs_rowN {F : Nat → Nat} {n b : Nat} (h : ∀ i, i < n → F i < b) : digs (rowN F) n b := fun i hi => ⟨by rw [rd_rowN]; rfl, by rw [rd_rowN]; exact h i hi⟩
theorem digs_row {f : Nat → List Av} {n b : Nat} (h : digs f n b) : rowC f n = rowC (rowN (rd f)) n := rowC_congr fun i hi => (h i hi).1
theorem rowN_congr {F G : Nat → Nat} {n : Nat} (h : ∀ i, i < n → F i = G i) : rowC (rowN F) n = rowC (rowN G) n := rowC_congr fun i hi => by simp only [rowN, h i hi]

theorem num_upd (F : Nat → Nat) {j u k : Nat} (h : j < k) : num (upd F j u) k + F j * 65536 ^ j = num F k + u * 65536 ^ j := by
  induction k with
  | zero => omega
  | succ k ih =>
    rcases Nat.lt_or_eq_of_le (Nat.le_of_lt_succ h) with h1 | rfl
    · have := ih h1
      simp only [num, upd_ne F u (by omega : k ≠ j)]
      omega
    · have e : num (upd F j u) j = num F j := num_congr fun i hi => upd_ne F u (by omega)
      simp only [num, upd_same, e]
      omega
theorem num_zero (n : Nat) : num (fun _ => 0) n = 0 := by
  induction n with
  | zero => rfl
  | succ n ih => rw [num, ih]; simp
theorem dg_num {F : Nat → Nat} {n : Nat} (h : ∀ i, i < n → F i < 65536) : ∀ i, i < n → dg (num F n) i = F i := by
  have key : ∀ k i, k + i ≤ n → ∃ q, num F (k + i) = num F k + q * 65536 ^ k := by
    intro k i
    induction i with
    | zero => intro _; exact ⟨0, by simp⟩
    | succ i ih =>
      intro hk
      obtain ⟨q, hq⟩ := ih (by omega)
      refine ⟨q + F (k + i) * 65536 ^ i, ?_⟩
      show num F (k + i) + F (k + i) * 65536 ^ (k + i) = _
      rw [hq, Nat.pow_add, Nat.add_mul, Nat.mul_assoc, Nat.mul_comm (65536 ^ k) (65536 ^ i)]
      omega
  intro i hi
  obtain ⟨q, hq⟩ := key (i + 1) (n - (i + 1)) (by omega)
  rw [show i + 1 + (n - (i + 1)) = n by omega] at hq
  have hl := num_lt (f := F) (k := i) fun j hj => h j (by omega)
  have h0 := h i hi
  have hp : 0 < 65536 ^ i := Nat.pow_pos (by omega)
  unfold dg
  rw [hq, num, Nat.pow_succ, show q * (65536 ^ i * 65536) = q * 65536 * 65536 ^ i by ac_rfl, Nat.add_assoc, ← Nat.add_mul, Nat.add_mul_div_right _ _ hp, Nat.div_eq_of_lt hl]
  omega
theorem num_top {F G : Nat → Nat} {k n : Nat} (hF : ∀ i, i < n → F i < 65536) (hk : k < n) (he : ∀ i, k < i → i < n → F i = G i) (hl : F k < G k) : num F n < num G n := by
  have key : ∀ m, k + 1 + m ≤ n → num F (k + 1 + m) < num G (k + 1 + m) := by
    intro m
    induction m with
    | zero =>
      intro _
      have h1 := num_lt (f := F) (k := k) fun i hi => hF i (by omega)
      show num F k + F k * 65536 ^ k < num G k + G k * 65536 ^ k
      have h2 : (F k + 1) * 65536 ^ k ≤ G k * 65536 ^ k := Nat.mul_le_mul_right _ hl
      rw [Nat.add_mul, Nat.one_mul] at h2
      omega
    | succ m ih =>
      intro hm
      have h1 := ih (by omega)
      have h2 := he (k + 1 + m) (by omega) (by omega)
      show num F (k + 1 + m) + F (k + 1 + m) * 65536 ^ (k + 1 + m) < num G (k + 1 + m) + G (k + 1 + m) * 65536 ^ (k + 1 + m)
      rw [h2]; omega
  have := key (n - (k + 1)) (by omega)
  rwa [show k + 1 + (n - (k + 1)) = n by omega] at this

/-! ## Calls that read rows -/

/-- a row as it may be read -/
theorem rd_only {B : Nat → Prop} {id : Nat} {o : Bool} {e : TypeId} {es n : Nat} {f : Nat → List Av} (h : BkOK ρ w B id (.row o e es n f)) :
    RowOK es n f ∧ n ≤ ρ.c id ∧ ρ.c id ≤ maxLen ∧ ρ.b id < w.heap.size ∧ ∀ j u, (rowC f n)[j]? = some u → w.cell? ⟨ρ.b id, ρ.o id + j, none⟩ = some u := by
  cases o with
  | false => obtain ⟨h1, h2, h3, h4, h5, h6⟩ := h; exact ⟨h1, h2, h3, h5, h6⟩
  | true =>
    obtain ⟨h1, h2, h3, h4, h5, cur, h6, h7, h8⟩ := h
    refine ⟨h1, h2, h3, (Array.getElem?_eq_some_iff.1 h6).1, fun j u hj => ?_⟩
    have h9 := cell_of_row w (ρ.b id) j cur e (0, 0) h6
    rw [h5, Nat.zero_add, h9, ← Array.getElem?_toList]
    rw [← h8, List.getElem?_take] at hj
    split at hj
    · exact hj
    · cases hj

theorem read_bk {B : Nat → Prop} {id i : Nat} {o : Bool} {e : TypeId} {es n : Nat} {f : Nat → List Av} (h : BkOK ρ w B id (.row o e es n f)) (hb : ρ'.b i = ρ.b id) (ho : ρ'.o i = ρ.o id) (hc : ρ'.c i = ρ.c id) :
    BkOK ρ' w (fun b => w.heap.size ≤ b) i (.row false e es n f) := by
  obtain ⟨h1, h2, h3, h4, h5⟩ := rd_only h
  exact ⟨h1, by rw [hc]; exact h2, by rw [hc]; exact h3, by rw [hb]; exact Nat.not_le.2 h4, by rw [hb]; exact h4, by rw [hb, ho]; exact h5⟩

/-- one's own row, newly made, as a call leaves it -/
theorem fresh_post {nt s d : Nat} {ρc ρe : Env} {B : Nat → Prop} {e : TypeId} {es n : Nat} {f g : Nat → List Av} (hB : ∀ b, w.heap.size ≤ b → B b) (hr : Rep nt (base w ρc) ρ' σ' a w') (hs : σ'.heap s = some (.row true e es n f)) (hg : RowOK es n g) (hc : rowC f n = rowC g n) :
    EffPost ρe (ρe.set d (ρ'.b s) (ρ'.c s)) w w' B (.new d (.row true e es n g)) := by
  obtain ⟨h1, h2, h3, h4, h5, cur, h6, h7, h8⟩ := hr.blocks s _ hs
  have hk := kept_below hr.below
  refine ⟨hk.os, hk.tape, hk.output, hk.size, fun i hi => Env.set_ne fun e => hi (by rw [e]; rfl), fun b hb _ => hk.block b hb, fun id k h => ?_, fun d' h _ => ?_⟩
  · cases h
    exact own_block hg h2 h3 (hB _ h4) h6 h7 (by rw [← hc]; exact h8)
  · cases h
    exact .inl (by simp [Env.set, upd_same]; exact h4)
theorem fresh_val {nt s d : Nat} {ρc ρe : Env} {e : TypeId} {es n : Nat} {f : Nat → List Av} (hr : Rep nt (base w ρc) ρ' σ' a w') (hs : σ'.heap s = some (.row true e es n f)) :
    (Av.sl s es 0 n).val ρ' = (Av.sl d es 0 n).val (ρe.set d (ρ'.b s) (ρ'.c s)) := by
  obtain ⟨h1, h2, h3, h4, h5, cur, h6, h7, h8⟩ := hr.blocks s _ hs
  rw [sl_val]
  simp [Av.val, h5]

/-- what is handed in, plain -/
theorem plain_in (w0 : Base) (args : List (List Av)) (h : ∀ l ∈ args, ∀ a ∈ l, a.plain) : InOK w0 (args.map .one) [] :=
  ⟨fun s hs => by
    obtain ⟨l, hl, rfl⟩ := List.mem_map.1 hs
    exact fun a ha => AvOK.of_plain (h l hl a ha), (fun _ _ h => by cases h), (fun _ _ h => by cases h), (fun _ _ _ _ h => by cases h)⟩

/-- a contract of a call that makes a row, out of a run of the machine -/
theorem row_ok' {f : Nat} (hcall : ∀ args w, (callFunc f args).run Tryd.prog w = .ok (.enter f args) w) {cls : Nat} {k : RCon}
    (h : ∀ args e es n g, k args = some (e, es, n, g) → (∀ A ∈ args, ∀ a ∈ A, a.name = none → a.plain) → RowOK es n g ∧
      ∀ ρ w, Calls Tryd.prog f (args.map (denL ρ)).toArray w fun e' w' => ∃ nt ρc ρ' σ' a' s f, e' = .returned ((Sv.one [.sl s es 0 n]).den ρ') ∧ Rep nt (base w ρc) ρ' σ' a' w' ∧ σ'.heap s = some (.row true e es n f) ∧ rowC f n = rowC g n) :
    EOK ⟨f, cls, rcon k⟩ := by
  have pl : ∀ (args : List RArg), (∀ A ∈ args, ∀ p ∈ A, (p.1.name = none → p.1.plain)) → ∀ A ∈ args.map fun A => A.map (·.1), ∀ a ∈ A, a.name = none → a.plain := by
    intro args hargs A hA a ha
    obtain ⟨A', hA', rfl⟩ := List.mem_map.1 hA
    obtain ⟨q, hq, rfl⟩ := List.mem_map.1 ha
    exact hargs A' hA' q hq
  constructor
  · intro args outs ho hargs i oc hi hc d
    obtain ⟨⟨e, es, n, g⟩, hk, rfl⟩ := Option.map_eq_some_iff.1 ho
    have hi' := List.mem_of_getElem? hi
    simp only [List.mem_singleton] at hi'
    subst hi'
    obtain ⟨h2, _⟩ := h _ e es n g hk (pl args fun A hA p hp => (hargs A hA p hp).1)
    exact ⟨(fun _ h => by cases h; rfl), (fun _ h => by cases h), (fun _ _ h => by cases h; exact ⟨rfl, trivial, h2⟩), one1 (.inr (.inl ⟨rfl, rfl, rfl⟩))⟩
  · intro args outs ho i oc hi hc ρ w B d hB hargs hd _
    obtain ⟨⟨e, es, n, g⟩, hk, rfl⟩ := Option.map_eq_some_iff.1 ho
    have hi' := List.mem_of_getElem? hi
    simp only [List.mem_singleton] at hi'
    subst hi'
    obtain ⟨h2, h3⟩ := h _ e es n g hk (pl args fun A hA p hp => (hargs A hA p hp).1)
    refine ⟨hcall _ _, ?_⟩
    have e1 : args.map (argV ρ) = (args.map fun A => A.map (·.1)).map (denL ρ) := by
      rw [List.map_map]; rfl
    rw [e1]
    refine (h3 ρ w).mono ?_
    rintro e' w' ⟨nt, ρc, ρ', σ', a', s, f, rfl, hr, hs, hc'⟩
    exact ⟨_, fresh_post (d := d) (ρe := ρ) hB hr hs h2 hc', congrArg _ (fresh_val (ρe := ρ) hr hs)⟩

/-! ## Calls that read rows and give plain values -/

abbrev DCon := List RArg → Option (List (Prop × Sv))
def dcon (k : DCon) : Con := fun args => (k args).map fun l => l.map fun p => ⟨p.1, fun _ => p.2, fun _ => .nop⟩

theorem dcon_ok {f : Nat} (hcall : ∀ args w, (callFunc f args).run Tryd.prog w = .ok (.enter f args) w) {k : DCon} {cls : Nat}
    (h : ∀ args l, k args = some l → ∀ p ∈ l, p.1 → p.2.all Av.plain ∧
      ∀ ρ w (B : Nat → Prop), (∀ A ∈ args, ∀ q ∈ A, ArgOK ρ w B q) → Calls Tryd.prog f (args.map (argV ρ)).toArray w fun e w' => Below w.heap.size w w' ∧ e = .returned (p.2.den ρ)) : EOK ⟨f, cls, dcon k⟩ := by
  have key : ∀ args outs, dcon k args = some outs → ∀ (i : Nat) oc, outs[i]? = some oc → ∃ l p, k args = some l ∧ p ∈ l ∧ oc = ⟨p.1, fun _ => p.2, fun _ => .nop⟩ := by
    intro args outs ho i oc hi
    obtain ⟨l, hl, rfl⟩ := Option.map_eq_some_iff.1 ho
    rw [List.getElem?_map] at hi
    obtain ⟨p, hp, rfl⟩ := Option.map_eq_some_iff.1 hi
    exact ⟨l, p, hl, List.mem_of_getElem? hp, rfl⟩
  constructor
  · intro args outs ho hargs i oc hi hc d
    obtain ⟨l, p, hl, hp, rfl⟩ := key args outs ho i oc hi
    have h1 := (h _ l hl p hp hc).1
    exact ⟨(fun _ h => by cases h), (fun _ h => by cases h), (fun _ _ h => by cases h), Sv.all_mono (fun _ h => .inl h) h1⟩
  · intro args outs ho i oc hi hc ρ w B d hB hargs hd _
    obtain ⟨l, p, hl, hp, rfl⟩ := key args outs ho i oc hi
    have h2 := (h _ l hl p hp hc).2 ρ w B hargs
    refine ⟨hcall _ _, h2.mono ?_⟩
    rintro e' w' ⟨hb, rfl⟩
    exact ⟨ρ, postBelow hb, rfl⟩

/-- rows that may be read, handed in -/
theorem in_reads {w0 : Base} {args : List Sv} {H : List (Nat × Bk)} (hrows : ∀ p ∈ H, p.2.own = false ∧ p.2.named (fun _ => False) ∧ BkOK w0.ρ w0.w w0.F p.1 p.2)
    (hargs : ∀ s ∈ args, s.all fun a => a.plain ∨ ∃ id k, a.name = some id ∧ lookH H id = some k) : InOK w0 args H := by
  refine ⟨fun s hs => Sv.all_mono ?_ (hargs s hs), fun id k hk => (hrows _ (lookH_mem hk)).2.2, fun id k hk => ?_, fun i j ki kj hi hj h1 _ _ => ?_⟩
  · rintro x (hx | ⟨id, k, hx, hk⟩)
    · exact AvOK.of_plain hx
    · unfold AvOK
      rw [hx]
      refine ⟨?_, ?_⟩
      · show (Nat.ble 1000 id || (lookH H id).isSome) = true
        rw [hk]; simp
      · show (lookH H id).isSome = true
        rw [hk]; rfl
  · have h2 := (hrows _ (lookH_mem hk)).2.1
    cases k with
    | var l t => exact fun a ha => (h2 a ha).elim
    | arr l t => exact fun a ha => (h2 a ha).elim
    | sit _ _ => trivial
    | row _ _ _ _ _ => trivial
    | dead => trivial
  · have := (hrows _ (lookH_mem hi)).1
    simp only at this
    rw [this] at h1; cases h1

/-- the numbers of a row that is read -/
theorem read_num {B : Nat → Prop} {id i : Nat} {o : Bool} {n b : Nat} {f : Nat → List Av} (h : BkOK ρ w B id (.row o 22 1 n f)) (hd : digs f n b) (hb : ρ'.b i = ρ.b id) (ho : ρ'.o i = ρ.o id) (hc : ρ'.c i = ρ.c id) :
    BkOK ρ' w (fun b => w.heap.size ≤ b) i (.row false 22 1 n (rowN (rd f))) :=
  BSim.ok (.inr ⟨_, _, _, _, _, _, rfl, rfl, rowOK_N _ _, digs_row hd⟩) (read_bk h hb ho hc)

end M
end Go.Proofs.YtmjdmhelmgcanaaDoor

/- A name, changed for another one: so that a slot can name a new block again. -/
namespace Go.Proofs.YtmjdmhelmgcanaaDoor
namespace M
open Go.RowKit
variable {P : Program} {w w' : World} {ρ ρ' : Env} {σ σ' : Ms}

def sw (a b i : Nat) : Nat := bif Nat.beq i a then b else i
theorem sw_inj {a b i j : Nat} (hi : i ≠ b) (hj : j ≠ b) (h : sw a b i = sw a b j) : i = j := by
  unfold sw at h
  cases h1 : Nat.beq i a with
  | true =>
    have e1 := Nat.eq_of_beq_eq_true h1
    cases h2 : Nat.beq j a with
    | true => rw [e1, Nat.eq_of_beq_eq_true h2]
    | false => rw [h1, h2] at h; exact absurd h.symm hj
  | false =>
    cases h2 : Nat.beq j a with
    | true => rw [h1, h2] at h; exact absurd h hi
    | false => rw [h1, h2] at h; exact h

def Av.ren (a b : Nat) : Av → Av
  | .clo f id => .clo f (sw a b id)
  | .ptr id off => .ptr (sw a b id) off
  | .pw id off i => .pw (sw a b id) off i
  | .pv id off m i => .pv (sw a b id) off m i
  | .pe id es i k => .pe (sw a b id) es i k
  | .sl id es off n => .sl (sw a b id) es off n
  | .as id n => .as (sw a b id) n
  | x => x
def renL (a b : Nat) (l : List Av) : List Av := l.map (Av.ren a b)
def Sv.ren (a b : Nat) : Sv → Sv
  | .one l => .one (renL a b l)
  | .tup l => .tup (l.map (renL a b))
  | .any => .any
def Bk.ren (a b : Nat) : Bk → Bk
  | .var l t => .var (renL a b l) t
  | .arr l t => .arr (renL a b l) t
  | .sit s p => .sit s p
  | .row o e es n f => .row o e es n f
  | .dead => .dead
def renS (a b : Nat) (S : List (Nat × Sv)) : List (Nat × Sv) := S.map fun p => (p.1, p.2.ren a b)
def renH (a b : Nat) (H : List (Nat × Bk)) : List (Nat × Bk) := H.map fun p => (sw a b p.1, p.2.ren a b)

theorem ren_name (a b : Nat) (x : Av) : (x.ren a b).name = x.name.map (sw a b) := by cases x <;> rfl
theorem ren_plain {a b : Nat} {x : Av} (h : x.plain) : x.ren a b = x := by cases x <;> first | rfl | exact absurd h (by simp [Av.plain])

/-- what is named so stands where the other one stood -/
def Moved (a b : Nat) (ρ ρ' : Env) : Prop := ∀ id, id ≠ b → ρ'.b (sw a b id) = ρ.b id ∧ ρ'.o (sw a b id) = ρ.o id ∧ ρ'.c (sw a b id) = ρ.c id

theorem ren_val {a b : Nat} (hm : Moved a b ρ ρ') {x : Av} (hx : ∀ id, x.name = some id → id ≠ b) : (x.ren a b).val ρ' = x.val ρ ∧ (x.ren a b).cells ρ' = x.cells ρ := by
  cases x <;> first
    | exact ⟨rfl, rfl⟩
    | (have h := hm _ (hx _ rfl); simp only [Av.ren, Av.val, Av.cells, h.1, h.2.1, h.2.2, and_self])
theorem ren_cells {a b : Nat} (hm : Moved a b ρ ρ') : ∀ {l : List Av}, (∀ x ∈ l, ∀ id, x.name = some id → id ≠ b) → cellsL ρ' (renL a b l) = cellsL ρ l
  | [], _ => rfl
  | x :: l, h => by
    show cellsL ρ' (x.ren a b :: renL a b l) = _
    rw [cellsL_cons, cellsL_cons, (ren_val hm (h x List.mem_cons_self)).2, ren_cells hm fun y hy => h y (List.mem_cons_of_mem _ hy)]
theorem ren_denL {a b : Nat} (hm : Moved a b ρ ρ') {l : List Av} (h : ∀ x ∈ l, ∀ id, x.name = some id → id ≠ b) : denL ρ' (renL a b l) = denL ρ l := by
  match l, h with
  | [], _ => rfl
  | [x], h => exact (ren_val hm (h x List.mem_cons_self)).1
  | x :: y :: r, h =>
    show Value.agg (cellsL ρ' (renL a b (x :: y :: r))).toArray = Value.agg (cellsL ρ (x :: y :: r)).toArray
    rw [ren_cells hm h]
theorem ren_den {a b : Nat} (hm : Moved a b ρ ρ') {v : Sv} (h : v.all fun x => ∀ id, x.name = some id → id ≠ b) : (v.ren a b).den ρ' = v.den ρ := by
  cases v with
  | one l => exact ren_denL hm h
  | tup l =>
    show Value.tuple ((l.map (renL a b)).map (denL ρ')).toArray = Value.tuple (l.map (denL ρ)).toArray
    rw [List.map_map]
    congr 2
    exact List.map_congr_left fun m hm' => ren_denL hm (h m hm')
  | any => rfl
theorem ren_all {a b : Nat} {p q : Av → Prop} {v : Sv} (h : v.all p) (hpq : ∀ x, p x → q (x.ren a b)) : (v.ren a b).all q := by
  cases v with
  | one l =>
    intro y hy
    obtain ⟨x, hx, rfl⟩ := List.mem_map.1 hy
    exact hpq x (h x hx)
  | tup l =>
    intro m hm y hy
    obtain ⟨m0, hm0, rfl⟩ := List.mem_map.1 hm
    obtain ⟨x, hx, rfl⟩ := List.mem_map.1 hy
    exact hpq x (h m0 hm0 x hx)
  | any => trivial

theorem lookS_ren (a b : Nat) : ∀ (S : List (Nat × Sv)) (i : Nat), lookS (renS a b S) i = (lookS S i).ren a b
  | [], _ => rfl
  | (j, v) :: S, i => by
    show (bif Nat.beq j i then v.ren a b else lookS (renS a b S) i) = (bif Nat.beq j i then v else lookS S i).ren a b
    rw [lookS_ren a b S i]
    cases Nat.beq j i <;> rfl
theorem lookH_ren {a b : Nat} : ∀ {H : List (Nat × Bk)}, (∀ p ∈ H, p.1 ≠ b) → ∀ {i : Nat}, i ≠ b → lookH (renH a b H) (sw a b i) = (lookH H i).map (Bk.ren a b)
  | [], _, _, _ => rfl
  | (j, k) :: H, h, i, hi => by
    show (bif Nat.beq (sw a b j) (sw a b i) then some (k.ren a b) else lookH (renH a b H) (sw a b i)) = (bif Nat.beq j i then some k else lookH H i).map (Bk.ren a b)
    have hj : j ≠ b := h _ List.mem_cons_self
    rw [lookH_ren (fun p hp => h p (List.mem_cons_of_mem _ hp)) hi]
    cases h1 : Nat.beq j i with
    | true =>
      have e := Nat.eq_of_beq_eq_true h1
      subst e
      rw [Nat.beq_refl]; rfl
    | false =>
      have : Nat.beq (sw a b j) (sw a b i) = false := by
        cases h2 : Nat.beq (sw a b j) (sw a b i) with
        | false => rfl
        | true =>
          have e := sw_inj hj hi (Nat.eq_of_beq_eq_true h2)
          subst e
          rw [Nat.beq_refl] at h1; cases h1
      rw [this]; rfl
theorem lookH_ren' {a b : Nat} {H : List (Nat × Bk)} (h : ∀ p ∈ H, p.1 ≠ b) {j : Nat} {k' : Bk} (hk : lookH (renH a b H) j = some k') : ∃ i k, i ≠ b ∧ j = sw a b i ∧ lookH H i = some k ∧ k' = k.ren a b := by
  have hmem := lookH_mem hk
  obtain ⟨p, hp, he⟩ := List.mem_map.1 hmem
  simp only [Prod.mk.injEq] at he
  have hpb := h p hp
  obtain ⟨rfl, -⟩ := he
  rw [lookH_ren h hpb] at hk
  obtain ⟨k, h1, h2⟩ := Option.map_eq_some_iff.1 hk
  exact ⟨p.1, k, hpb, rfl, h1, h2.symm⟩

theorem goes_name {nt : Nat} {w0 : Base} {k : List Fr} {o : Out} {S : List (Nat × Sv)} {H : List (Nat × Bk)} {Z : List Fr → Out → Ms → Prop} {a b : Nat} (ha : a < 1000) (hb : b < 1000) (hH : ∀ p ∈ H, p.1 ≠ b)
    (g : Goes P nt w0 k o (kn (renS a b S) (renH a b H)) Z) : Goes P nt w0 k o (kn S H) Z := by
  intro Q hQ ρ act w hr
  let ρ' : Env := ⟨upd ρ.b b (ρ.b a), upd ρ.o b (ρ.o a), upd ρ.c b (ρ.c a)⟩
  have hm : Moved a b ρ ρ' := by
    intro id hid
    unfold sw
    cases h1 : Nat.beq id a with
    | true =>
      have e := Nat.eq_of_beq_eq_true h1
      subst e
      simp only [cond_true, ρ', upd_same, and_self]
    | false =>
      simp only [cond_false, ρ', upd_ne _ _ hid, and_self]
  have hdomb : (lookH H b).isSome = false := by
    cases hx : lookH H b with
    | none => rfl
    | some k => exact absurd rfl (hH _ (lookH_mem hx))
  have hav : ∀ x, AvOK (kn S H) x → ∀ id, x.name = some id → id ≠ b := by
    intro x hx id hid e
    subst e
    unfold AvOK at hx
    rw [hid] at hx
    have h2 : (lookH H id).isSome = true := hx.2
    rw [hdomb] at h2; cases h2
  have hok : ∀ x, AvOK (kn S H) x → AvOK (kn (renS a b S) (renH a b H)) (x.ren a b) := by
    intro x hx
    have hx0 := hx
    unfold AvOK at hx ⊢
    rw [ren_name]
    cases hn : x.name with
    | none =>
      rw [hn] at hx
      show (x.ren a b).plain
      rw [ren_plain hx]; exact hx
    | some id =>
      rw [hn] at hx
      have hs : (lookH (renH a b H) (sw a b id)).isSome = true := by
        rw [lookH_ren hH (hav x hx0 id hn)]
        have h2 : (lookH H id).isSome = true := hx.2
        simpa using h2
      refine ⟨?_, hs⟩
      show (Nat.ble 1000 (sw a b id) || (lookH (renH a b H) (sw a b id)).isSome) = true
      rw [hs, Bool.or_true]
  refine g Q hQ ρ' act w ⟨hr.size, hr.defers, fun i hi => ?_, hr.below, fun j k' hk => ?_, fun i j ki kj hi hj h1 h2 he => ?_, fun i => ?_, fun j k' hk => ?_, fun j hj => ?_, fun i hi => ?_⟩
  · show lookS (renS a b S) i = .any ∨ act.eval (.tmp i) = (lookS (renS a b S) i).den ρ'
    rw [lookS_ren]
    rcases hr.slots i hi with h1 | h1
    · left
      have h1' : lookS S i = .any := h1
      rw [h1']; rfl
    · right
      rw [h1]
      exact (ren_den hm (Sv.all_mono (fun x hx => hav x hx) (hr.okS i))).symm
  · obtain ⟨i, k0, hib, rfl, h1, rfl⟩ := lookH_ren' hH hk
    have h2 := hr.blocks i k0 h1
    obtain ⟨e1, e2, e3⟩ := hm i hib
    have h3 := hr.okH i k0 h1
    cases k0 with
    | var l t => exact ⟨by rw [e1]; exact h2.1, by rw [e1, ren_cells hm fun x hx => hav x (h3 x hx)]; exact h2.2⟩
    | sit s p => exact ⟨by rw [e1]; exact h2.1, by rw [e1]; exact h2.2⟩
    | arr l t =>
      obtain ⟨q1, q2, q3, cur, q4, q5, q6⟩ := h2
      have hcl := ren_cells hm (fun x hx => hav x (h3 x hx))
      have hsz : sizeL (renL a b l) = sizeL l := by rw [← cellsL_length ρ', hcl, cellsL_length]
      exact ⟨by rw [e3, hsz]; exact q1, by rw [e3]; exact q2, by rw [e1]; exact q3, cur, by rw [e1]; exact q4, by rw [e3]; exact q5, by rw [hsz, hcl]; exact q6⟩
    | row ow e es n f =>
      cases ow with
      | true =>
        obtain ⟨q1, q2, q3, q4, q5, cur, q6, q7, q8⟩ := h2
        exact ⟨q1, by rw [e3]; exact q2, by rw [e3]; exact q3, by rw [e1]; exact q4, by rw [e2]; exact q5, cur, by rw [e1]; exact q6, by rw [e3]; exact q7, q8⟩
      | false =>
        obtain ⟨q1, q2, q3, q4, q5, q6⟩ := h2
        exact ⟨q1, by rw [e3]; exact q2, by rw [e3]; exact q3, by rw [e1]; exact q4, by rw [e1]; exact q5, by rw [e1, e2]; exact q6⟩
    | dead => trivial
  · obtain ⟨i0, k0, hib, rfl, g1, rfl⟩ := lookH_ren' hH hi
    obtain ⟨j0, k1, hjb, rfl, g2, rfl⟩ := lookH_ren' hH hj
    have o1 : k0.own = true := by cases k0 <;> exact h1
    have o2 : k1.own = true := by cases k1 <;> exact h2
    rw [(hm i0 hib).1, (hm j0 hjb).1] at he
    rw [hr.inj i0 j0 k0 k1 g1 g2 o1 o2 he]
  · show (lookS (renS a b S) i).all _
    rw [lookS_ren]
    exact ren_all (hr.okS i) hok
  · obtain ⟨i, k0, hib, rfl, h1, rfl⟩ := lookH_ren' hH hk
    have h3 := hr.okH i k0 h1
    cases k0 with
    | var l t =>
      intro y hy
      obtain ⟨x, hx, rfl⟩ := List.mem_map.1 hy
      exact hok x (h3 x hx)
    | sit _ _ => trivial
    | arr l t =>
      intro y hy
      obtain ⟨x, hx, rfl⟩ := List.mem_map.1 hy
      exact hok x (h3 x hx)
    | row _ _ _ _ _ => trivial
    | dead => trivial
  · show (Nat.ble 1000 j || (lookH (renH a b H) j).isSome) = true
    have : (lookH (renH a b H) j).isSome = true := hj
    rw [this, Bool.or_true]
  · have hib : i ≠ b := by omega
    obtain ⟨_, h2, h3, h4⟩ := hr.names i hi
    refine ⟨?_, by simp only [ρ', upd_ne _ _ hib]; exact h2, by simp only [ρ', upd_ne _ _ hib]; exact h3, by simp only [ρ', upd_ne _ _ hib]; exact h4⟩
    show (Nat.ble 1000 i || (lookH (renH a b H) i).isSome) = true
    rw [Nat.ble_eq_true_of_le hi, Bool.true_or]

end M
end Go.Proofs.YtmjdmhelmgcanaaDoor

/- r01.Of for rows of any length: the number of digits. -/
namespace Go.Proofs.YtmjdmhelmgcanaaDoor
namespace M
open Go.RowKit
set_option linter.unusedSimpArgs false

def ofA (n : Nat) : List (Nat × Sv) := argS 0 [.one [.sl 1000 1 0 n]]
def ofS (n : Nat) (i : Nat) : List (Nat × Sv) := [(0, .one [.sl 1000 1 0 n]), (2, .one [.ptr 2 0]), (4, .one [.ptr 4 0]), (5, .one [.int .i64 (i : Nat)])]
def ofH (n : Nat) (F : Nat → Nat) (A : Nat) : List (Nat × Bk) := [(1000, .row false 22 1 n (rowN F)), (2, .var [.big 4 0] 24), (4, .var [.big 4 A] 24)]
def ofV (F : Nat → Nat) (A i : Nat) : Nat := stw 4 A (i / 4) (lm A (i / 4) + F i * 2 ^ (16 * (i % 4)))

theorem of_step {F : Nat → Nat} {i : Nat} (h16 : i < 16) (hF : ∀ k, k ≤ i → F k < 65536) :
    ofV F (num F i) i = num F (i + 1) ∧ lm (num F i) (i / 4) + F i * 2 ^ (16 * (i % 4)) < 18446744073709551616 := by
  have h0 := num_lt (f := F) (k := i) fun k hk => hF k (by omega)
  have hp : 65536 ^ i = 18446744073709551616 ^ (i / 4) * 2 ^ (16 * (i % 4)) := by
    rw [word_pow, show (65536 : Nat) = 2 ^ 16 from rfl, ← Nat.pow_mul]
    congr 1; omega
  have h1 : lm (num F i) (i / 4) < 2 ^ (16 * (i % 4)) := by
    rw [hp] at h0
    exact Nat.lt_of_le_of_lt (Nat.mod_le _ _) (Nat.div_lt_of_lt_mul h0)
  have h2 : F i * 2 ^ (16 * (i % 4)) ≤ 65535 * 2 ^ (16 * (i % 4)) := Nat.mul_le_mul_right _ (by have := hF i (Nat.le_refl _); omega)
  have h3 : 2 ^ (16 * (i % 4)) ≤ 281474976710656 := Nat.pow_le_pow_right (n := 2) (i := 16 * (i % 4)) (j := 48) (by omega) (by omega)
  have h4 : lm (num F i) (i / 4) + F i * 2 ^ (16 * (i % 4)) < 18446744073709551616 := by omega
  refine ⟨?_, h4⟩
  have h5 : num F i < pow64 4 := by
    have e : pow64 4 = 65536 ^ 16 := rfl
    rw [e]
    exact Nat.lt_of_lt_of_le h0 (Nat.pow_le_pow_right (by omega) (by omega))
  have h6 := stw_add (v := lm (num F i) (i / 4) + F i * 2 ^ (16 * (i % 4))) h5 (by omega : i / 4 < 4)
  rw [Nat.add_mul, Nat.mul_assoc, Nat.mul_comm (2 ^ (16 * (i % 4))), ← hp] at h6
  show stw 4 _ _ _ = num F i + F i * 65536 ^ i
  omega

theorem of_round {w0 : Base} {F : Nat → Nat} {n A i : Nat} (hi : i < n) (_ : n < 64) (h16 : i < 16) (hb : lm A (i / 4) + F i * 2 ^ (16 * (i % 4)) < 18446744073709551616) :
    Goes Tryd.prog Tryd.f22.ntmps w0 [.code (roundOf 0 (bodyOf Tryd.f22))] .norm (kn (ofS n i) (ofH n F A)) fun k o σ => k = [] ∧ o = .norm ∧ σ = kn (ofS n (i + 1)) (ofH n F (ofV F A i)) := by
  have hnn : (0 : Int) ≤ ((F i * 2 ^ (16 * (i % 4)) : Nat) : Int) := Int.natCast_nonneg _
  exact goes (ctx_ok tabM_ok 39) mixed rfl (gs := []) (gh := []) (orc := way [(13, 1)]) (stops := []) (f := 3000) (k := [.code (roundOf 0 (bodyOf Tryd.f22))]) (o := .norm) (σ := (kn (ofS n i) (ofH n F A))) (cs := [True, True, True, (↑i : Int) < (↑n : Int), True, ¬(16 : Int) ≤ (↑i : Int), True, True, True, True, True, True, True, True, (↑i : Int) < (16 : Int), True, (0 : Int) ≤ (↑i : Int) ∧ (-9223372036854775808 : Int) ≤ (↑i : Int) / (4 : Int) ∧ (↑i : Int) / (4 : Int) < (9223372036854775808 : Int), (0 : Int) ≤ (↑i : Int) / (4 : Int) ∧ (↑i : Int) / (4 : Int) < (↑(4 : Nat) : Int), i / 4 < (4 : Nat), True, True, (0 : Int) ≤ (↑i : Int) ∧ (↑i : Int) < (↑n : Int), addO (0 : Nat) i < n, True, (0 : Int) ≤ (↑i : Int), (-9223372036854775808 : Int) ≤ (16 : Int) * ((↑i : Int) % (4 : Int)) ∧ (16 : Int) * ((↑i : Int) % (4 : Int)) < (9223372036854775808 : Int), (0 : Int) ≤ (↑(F (addO (0 : Nat) (Int.toNat (Prod.snd (IntKind.i64, (↑i : Int)))))) : Int) ∧ (0 : Int) ≤ (16 : Int) * ((↑i : Int) % (4 : Int)) ∧ (16 : Int) * ((↑i : Int) % (4 : Int)) < (64 : Int) ∧ (0 : Int) ≤ (↑(F (addO (0 : Nat) (Int.toNat (Prod.snd (IntKind.i64, (↑i : Int))))) * (2 : Nat) ^ (16 * (i % 4))) : Int) ∧ (↑(F (addO (0 : Nat) (Int.toNat (Prod.snd (IntKind.i64, (↑i : Int))))) * (2 : Nat) ^ (16 * (i % 4))) : Int) < (18446744073709551616 : Int), (0 : Int) ≤ (↑(lm A (i / 4)) : Int) + (↑(F (addO (0 : Nat) (Int.toNat (Prod.snd (IntKind.i64, (↑i : Int))))) * (2 : Nat) ^ (16 * (i % 4))) : Int) ∧ (↑(lm A (i / 4)) : Int) + (↑(F (addO (0 : Nat) (Int.toNat (Prod.snd (IntKind.i64, (↑i : Int))))) * (2 : Nat) ^ (16 * (i % 4))) : Int) < (18446744073709551616 : Int), (0 : Int) ≤ (↑i : Int) / (4 : Int) ∧ (↑i : Int) / (4 : Int) < (↑(4 : Nat) : Int), i / 4 < (4 : Nat) ∧ (0 : Int) ≤ (↑(lm A (i / 4)) : Int) + (↑(F (addO (0 : Nat) (Int.toNat (Prod.snd (IntKind.i64, (↑i : Int))))) * (2 : Nat) ^ (16 * (i % 4))) : Int) ∧ (↑(lm A (i / 4)) : Int) + (↑(F (addO (0 : Nat) (Int.toNat (Prod.snd (IntKind.i64, (↑i : Int))))) * (2 : Nat) ^ (16 * (i % 4))) : Int) < (18446744073709551616 : Int), True, (-9223372036854775808 : Int) ≤ (↑i : Int) + (1 : Int) ∧ (↑i : Int) + (1 : Int) < (9223372036854775808 : Int), True]) (k' := []) (o' := .norm) (S := (ofS n (i + 1))) (H := (ofH n F (ofV F A i))) (by kernel_rfl) (by kernel_rfl) (by simp only [conj, and_true, true_and, addO_eq, Nat.zero_add, Int.toNat_natCast]; omega)

theorem of_round2 {w0 : Base} {F : Nat → Nat} {n A i : Nat} (hi : i < n) (_ : n < 64) (h16 : 16 ≤ i) (hz : F i = 0) :
    Goes Tryd.prog Tryd.f22.ntmps w0 [.code (roundOf 0 (bodyOf Tryd.f22))] .norm (kn (ofS n i) (ofH n F A)) fun k o σ => k = [] ∧ o = .norm ∧ σ = kn (ofS n (i + 1)) (ofH n F A) :=
  goes (ctx_ok tabM_ok 39) mixed rfl (gs := []) (gh := []) (orc := way [(19, 1), (23, 1)]) (stops := []) (f := 3000) (k := [.code (roundOf 0 (bodyOf Tryd.f22))]) (o := .norm) (σ := (kn (ofS n i) (ofH n F A))) (cs := [True, True, True, (↑i : Int) < (↑n : Int), True, (16 : Int) ≤ (↑i : Int), True, True, True, (0 : Int) ≤ (↑i : Int) ∧ (↑i : Int) < (↑n : Int), addO (0 : Nat) i < n, ¬(0 : Int) < (↑(F (addO (0 : Nat) (Int.toNat (Prod.snd (IntKind.i64, (↑i : Int)))))) : Int), True, True, ¬(↑i : Int) < (16 : Int), True, (-9223372036854775808 : Int) ≤ (↑i : Int) + (1 : Int) ∧ (↑i : Int) + (1 : Int) < (9223372036854775808 : Int), True]) (k' := []) (o' := .norm) (S := (ofS n (i + 1))) (H := (ofH n F A)) (by kernel_rfl) (by kernel_rfl) (by simp only [conj, and_true, true_and, addO_eq, Nat.zero_add, Int.toNat_natCast, hz]; omega)

theorem of_round3 {w0 : Base} {F : Nat → Nat} {n A i : Nat} (hi : i < n) (_ : n < 64) (h16 : 16 ≤ i) (hz : 0 < F i) :
    Goes Tryd.prog Tryd.f22.ntmps w0 [.code (roundOf 0 (bodyOf Tryd.f22))] .norm (kn (ofS n i) (ofH n F A)) fun k o σ => k = [] ∧ o = .ret ∧ σ = kn [(2, .one [.ptr 2 0]), (3, .one (B false))] (ofH n F A) :=
  goes (ctx_ok tabM_ok 39) mixed rfl (gs := []) (gh := []) (orc := way []) (stops := []) (f := 3000) (k := [.code (roundOf 0 (bodyOf Tryd.f22))]) (o := .norm) (σ := (kn (ofS n i) (ofH n F A))) (cs := [True, True, True, (↑i : Int) < (↑n : Int), True, (16 : Int) ≤ (↑i : Int), True, True, True, (0 : Int) ≤ (↑i : Int) ∧ (↑i : Int) < (↑n : Int), addO (0 : Nat) i < n, (0 : Int) < (↑(F (addO (0 : Nat) (Int.toNat (Prod.snd (IntKind.i64, (↑i : Int)))))) : Int), True, True, True, True]) (k' := []) (o' := .ret) (S := [(2, .one [.ptr 2 0]), (3, .one (B false))]) (H := (ofH n F A)) (by kernel_rfl) (by kernel_rfl) (by simp only [conj, and_true, true_and, addO_eq, Nat.zero_add, Int.toNat_natCast]; omega)

/-- no digits above the lower 16 -/
def lowD (F : Nat → Nat) (n : Nat) : Prop := ∀ k, 16 ≤ k → k < n → F k = 0

theorem of_goes {w0 : Base} {F : Nat → Nat} {n : Nat} (hn : n < 64) (h16 : 16 ≤ n) (hF : ∀ i, i < n → F i < 65536) : Goes Tryd.prog Tryd.f22.ntmps w0 [.code (bodyOf Tryd.f22)] .norm (kn (ofA n) [(1000, .row false 22 1 n (rowN F))])
    (Fin (ctx tabM 39) Tryd.f22.results.toList fun v _ => (lowD F n ∧ v = .tup [N (num F 16), B true]) ∨ ((∃ k, 16 ≤ k ∧ k < n ∧ 0 < F k) ∧ v = .tup [N 0, B false])) := by
  refine (goes (ctx_ok tabM_ok 39) mixed rfl (gs := [5]) (gh := []) (orc := way []) (stops := [0]) (f := 3000) (k := [.code (bodyOf Tryd.f22)]) (o := .norm) (σ := (kn (ofA n) [(1000, .row false 22 1 n (rowN F))])) (cs := [True, True, True, True]) (k' := (kOf 0 (bodyOf Tryd.f22))) (o' := .norm) (S := (ofS n 0)) (H := (ofH n F 0)) (by kernel_rfl) (by kernel_rfl) (by simp [conj])).bind ?_
  rintro k o σ ⟨rfl, rfl, rfl⟩
  have hk : kOf 0 (bodyOf Tryd.f22) = .code (.block 0 (.loop (roundOf 0 (bodyOf Tryd.f22)))) :: restOf 0 (bodyOf Tryd.f22) := by kernel_rfl
  rw [hk]
  refine (goes_loop (fun p : Nat × Nat => kn (ofS n p.1) (ofH n F p.2)) (fun p => p.1 ≤ n ∧ p.2 = num F (min p.1 16) ∧ lowD F p.1) (fun p => n - p.1)
    (fun o σ => (o = .norm ∧ lowD F n ∧ σ = kn (ofS n n) (ofH n F (num F 16))) ∨ (o = .ret ∧ (∃ k, 16 ≤ k ∧ k < n ∧ 0 < F k) ∧ ∃ A, σ = kn [(2, .one [.ptr 2 0]), (3, .one (B false))] (ofH n F A))) ?_ (p := (0, 0)) ⟨Nat.zero_le _, rfl, fun k h1 h2 => absurd h2 (by show ¬ k < 0; omega)⟩).bind ?_
  · rintro ⟨i, A⟩ ⟨h1, h2, h3⟩
    simp only at h1 h2 h3
    by_cases hi : i < n
    · by_cases hs : i < 16
      · rw [Nat.min_eq_left (by omega)] at h2
        subst h2
        obtain ⟨e1, e2⟩ := of_step hs (F := F) fun k hk => hF k (by omega)
        refine (of_round hi hn hs e2).mono ?_
        rintro k o σ ⟨rfl, rfl, rfl⟩
        refine ⟨rfl, .inl ⟨rfl, (i + 1, num F (i + 1)), ⟨hi, ?_, fun k g1 g2 => ?_⟩, by show n - (i + 1) < n - i; omega, by rw [e1]⟩⟩
        · show num F (i + 1) = num F (min (i + 1) 16); rw [Nat.min_eq_left (by omega)]
        · have g2' : k < i + 1 := g2
          omega
      · rw [Nat.min_eq_right (by omega)] at h2
        subst h2
        rcases Nat.eq_zero_or_pos (F i) with hz | hz
        · refine (of_round2 hi hn (by omega) hz).mono ?_
          rintro k o σ ⟨rfl, rfl, rfl⟩
          refine ⟨rfl, .inl ⟨rfl, (i + 1, num F 16), ⟨hi, ?_, fun k g1 g2 => ?_⟩, by show n - (i + 1) < n - i; omega, rfl⟩⟩
          · show num F 16 = num F (min (i + 1) 16); rw [Nat.min_eq_right (by omega)]
          · have g2' : k < i + 1 := g2
            by_cases e : k = i
            · subst e; exact hz
            · exact h3 k g1 (by omega)
        · refine (of_round3 hi hn (by omega) hz).mono ?_
          rintro k o σ ⟨rfl, rfl, rfl⟩
          exact ⟨rfl, .inr ⟨by simp, .inr ⟨rfl, ⟨i, by omega, hi, hz⟩, _, rfl⟩⟩⟩
    · obtain rfl : i = n := by omega
      rw [Nat.min_eq_right (by omega)] at h2
      subst h2
      refine (goes (ctx_ok tabM_ok 39) mixed rfl (gs := []) (gh := []) (orc := way [(9, 1)]) (stops := []) (f := 3000) (k := [.code (roundOf 0 (bodyOf Tryd.f22))]) (o := .norm) (σ := (kn (ofS i i) (ofH i F (num F 16)))) (cs := [True, True, True, ¬(↑i : Int) < (↑i : Int)]) (k' := []) (o' := (.exit 0)) (S := (ofS i i)) (H := (ofH i F (num F 16))) (by kernel_rfl) (by kernel_rfl) (by simp [conj])).mono ?_
      rintro k o σ ⟨rfl, rfl, rfl⟩
      exact ⟨rfl, .inr ⟨by simp, .inl ⟨rfl, h3, rfl⟩⟩⟩
  · rintro k o σ ⟨rfl, ⟨rfl, hl, rfl⟩ | ⟨rfl, hl, A, rfl⟩⟩
    · refine (goes_ret (ctx_ok tabM_ok 39) mixed rfl (orc := way []) (stops := []) (f := 3000) (k := (restOf 0 (bodyOf Tryd.f22))) (o := .norm) (σ := (kn (ofS n n) (ofH n F (num F 16)))) (cs := [True, True, True]) (o' := .ret) (rs := Tryd.f22.results.toList) (v := (.tup [N (num F 16), B true])) (H := ([] : List (Nat × Bk))) (by kernel_rfl) (.inr rfl) (by simp [conj]) fun _ _ => .inl ⟨hl, rfl⟩)
    · refine (goes_ret (ctx_ok tabM_ok 39) mixed rfl (orc := way []) (stops := []) (f := 3000) (k := (restOf 0 (bodyOf Tryd.f22))) (o := .ret) (σ := (kn [(2, .one [.ptr 2 0]), (3, .one (B false))] (ofH n F A))) (cs := []) (o' := .ret) (rs := Tryd.f22.results.toList) (v := (.tup [N 0, B false])) (H := ([] : List (Nat × Bk))) (by kernel_rfl) (.inr rfl) (by simp [conj]) fun _ _ => .inr ⟨hl, rfl⟩)

theorem num_low {F : Nat → Nat} {n : Nat} (h16 : 16 ≤ n) (h : lowD F n) : num F n = num F 16 := by
  have key : ∀ m, 16 + m ≤ n → num F (16 + m) = num F 16 := by
    intro m
    induction m with
    | zero => intro _; rfl
    | succ m ih =>
      intro hm
      show num F (16 + m) + F (16 + m) * 65536 ^ (16 + m) = num F 16
      rw [h (16 + m) (by omega) (by omega), Nat.zero_mul, Nat.add_zero, ih (by omega)]
  have := key (n - 16) (by omega)
  rwa [show 16 + (n - 16) = n by omega] at this
theorem num_ge {F : Nat → Nat} {n k : Nat} (h1 : 16 ≤ k) (h2 : k < n) (h : 0 < F k) : TOP ≤ num F n := by
  have key : ∀ m, k + 1 + m ≤ n → 65536 ^ k ≤ num F (k + 1 + m) := by
    intro m
    induction m with
    | zero =>
      intro _
      show 65536 ^ k ≤ num F k + F k * 65536 ^ k
      have : 1 * 65536 ^ k ≤ F k * 65536 ^ k := Nat.mul_le_mul_right _ h
      omega
    | succ m ih =>
      intro hm
      have := ih (by omega)
      show 65536 ^ k ≤ num F (k + 1 + m) + _
      omega
  have h3 := key (n - (k + 1)) (by omega)
  rw [show k + 1 + (n - (k + 1)) = n by omega] at h3
  have h4 : TOP ≤ 65536 ^ k := by
    have e : TOP = 65536 ^ 16 := rfl
    rw [e]
    exact Nat.pow_le_pow_right (by omega) h1
  omega

def ofK : DCon
  | [[(.sl _ 1 0 n, some (.row _ 22 1 n1 f))]] =>
    some [(n1 = n ∧ 16 ≤ n ∧ n < 64 ∧ digs f n 65536 ∧ num (rd f) n < TOP, .tup [N (num (rd f) n), B true]),
      (n1 = n ∧ 16 ≤ n ∧ n < 64 ∧ digs f n 65536 ∧ TOP ≤ num (rd f) n, .tup [N 0, B false])]
  | _ => none
def eROf : Entry := ⟨22, 1, dcon ofK⟩

theorem rof_e : EOK eROf := by
  refine dcon_ok (fun a w => Tryd.call22 a w) fun args l hl p hp hc => ?_
  unfold ofK at hl
  split at hl
  · rename_i a n o n1 f
    cases hl
    have key : (n1 = n ∧ 16 ≤ n ∧ n < 64 ∧ digs f n 65536) ∧ p.2.all Av.plain ∧ ∀ v, ((lowD (rd f) n ∧ v = .tup [N (num (rd f) 16), B true]) ∨ ((∃ k, 16 ≤ k ∧ k < n ∧ 0 < rd f k) ∧ v = .tup [N 0, B false])) → v = p.2 := by
      simp only [List.mem_cons, List.not_mem_nil, or_false] at hp
      rcases hp with rfl | rfl
      · obtain ⟨h1, h2, h3, h4, h5⟩ := hc
        refine ⟨⟨h1, h2, h3, h4⟩, plain2 h5 (B_plain _), ?_⟩
        rintro v (⟨hl, rfl⟩ | ⟨⟨k, k1, k2, k3⟩, rfl⟩)
        · simp only [num_low h2 hl]
        · have := num_ge k1 k2 k3; omega
      · obtain ⟨h1, h2, h3, h4, h5⟩ := hc
        refine ⟨⟨h1, h2, h3, h4⟩, plain2 top_pos (B_plain _), ?_⟩
        rintro v (⟨hl, rfl⟩ | ⟨_, rfl⟩)
        · have e1 := num_low h2 hl
          have e2 := num_lt (f := rd f) (k := 16) fun i hi => (h4 i (by omega)).2
          have e3 : TOP = 65536 ^ 16 := rfl
          omega
        · rfl
    obtain ⟨⟨rfl, h2, h3, h4⟩, hpl, hv⟩ := key
    refine ⟨hpl, fun ρ w B hargs => ?_⟩
    obtain ⟨ida, ha1, ha2, _⟩ := (hargs _ List.mem_cons_self _ List.mem_cons_self).2 _ rfl
    cases ha1
    let ρ2 : Env := ⟨fun _ => ρ.b a, fun _ => ρ.o a, fun _ => ρ.c a⟩
    have hin : InOK (base w ρ2) [.one [.sl 1000 1 0 n1]] [(1000, .row false 22 1 n1 (rowN (rd f)))] := by
      refine in_reads ?_ ?_
      · intro p hp
        simp only [List.mem_cons, List.not_mem_nil, or_false] at hp
        subst hp
        exact ⟨rfl, trivial, read_num ha2 h4 rfl rfl rfl⟩
      · intro s hs
        simp only [List.mem_cons, List.not_mem_nil, or_false] at hs
        subst hs
        exact one1 (.inr ⟨1000, _, rfl, rfl⟩)
    refine (calls_of (ctx_ok tabM_ok 39) Tryd.func22 (c := bodyOf Tryd.f22) rfl rfl (Nat.le_of_ble_eq_true (by kernel_rfl)) hin (of_goes h3 h2 fun i hi => (h4 i hi).2)).mono ?_
    rintro e w' ⟨v, σ', ρ', a', hR, rfl, hr, _⟩
    have hv' := hv v hR
    subst hv'
    exact ⟨kept_below hr.below, by rw [den_plain hpl ρ ρ']⟩
  · cases hl

end M
end Go.Proofs.YtmjdmhelmgcanaaDoor

/- r01.carry for sixteen digits, each ten times too great: carried in place, a digit more. -/
namespace Go.Proofs.YtmjdmhelmgcanaaDoor
namespace M
open Go.RowKit
set_option linter.unusedSimpArgs false

def crA : List (Nat × Sv) := argS 0 [.one [.sl 1000 1 0 16]]
def crS (v i : Nat) : List (Nat × Sv) := [(0, .one [.sl 1000 1 0 16]), (3, .one [.int .u64 (v : Nat)]), (4, .one [.int .i64 (i : Nat)])]
def crH (G : Nat → Nat) : List (Nat × Bk) := [(1000, .row true 22 1 16 (rowN G))]
def crF (G : Nat → Nat) (v : Nat) : Nat → List Av := fun i => bif Nat.blt i 16 then rowN G i else getL [[.int .u64 (v : Nat)]] (0 + (i - 16))

theorem cr_round {w0 : Base} {G : Nat → Nat} {v i : Nat} (hi : i < 16) (hv : v < 11) (hG : G i < 655360) :
    Goes Tryd.prog Tryd.f24.ntmps w0 [.code (roundOf 0 (bodyOf Tryd.f24))] .norm (kn (crS v i) (crH G)) fun k o σ => k = [] ∧ o = .norm ∧ σ = kn (crS ((v + G i) / 65536) (i + 1)) (crH (upd G i ((v + G i) % 65536))) := by
  refine Goes.mono (goes (ctx_ok tabM_ok 28) mixed rfl (gs := []) (gh := []) (orc := way []) (stops := []) (f := 3000) (k := [.code (roundOf 0 (bodyOf Tryd.f24))]) (o := .norm) (σ := (kn (crS v i) (crH G))) (cs := [True, True, True, (↑i : Int) < (↑(16 : Nat) : Int), True, True, True, (0 : Int) ≤ (↑i : Int) ∧ (↑i : Int) < (↑(16 : Nat) : Int), addO (0 : Nat) i < (16 : Nat), (0 : Int) ≤ (↑v : Int) + (↑(G (addO (0 : Nat) (Int.toNat (Prod.snd (IntKind.i64, (↑i : Int)))))) : Int) ∧ (↑v : Int) + (↑(G (addO (0 : Nat) (Int.toNat (Prod.snd (IntKind.i64, (↑i : Int)))))) : Int) < (18446744073709551616 : Int), True, True, True, True, (0 : Int) ≤ (↑v : Int) + (↑(G (addO (0 : Nat) (Int.toNat (Prod.snd (IntKind.i64, (↑i : Int)))))) : Int), (0 : Int) ≤ (↑i : Int) ∧ (↑i : Int) < (↑(16 : Nat) : Int), addO (0 : Nat) i < (16 : Nat), True, (0 : Int) ≤ (↑v : Int) + (↑(G (addO (0 : Nat) (Int.toNat (Prod.snd (IntKind.i64, (↑i : Int)))))) : Int) ∧ (0 : Int) ≤ ((↑v : Int) + (↑(G (addO (0 : Nat) (Int.toNat (Prod.snd (IntKind.i64, (↑i : Int)))))) : Int)) / (65536 : Int) ∧ ((↑v : Int) + (↑(G (addO (0 : Nat) (Int.toNat (Prod.snd (IntKind.i64, (↑i : Int)))))) : Int)) / (65536 : Int) < (18446744073709551616 : Int), True, True, (-9223372036854775808 : Int) ≤ (↑i : Int) + (1 : Int) ∧ (↑i : Int) + (1 : Int) < (9223372036854775808 : Int), True]) (k' := []) (o' := .norm) (S := (crS ((v + G i) / 65536) (i + 1))) (H := [(1000, .row true 22 1 16 (upd (rowN G) i [.int .u64 (((v + G i) % 65536 : Nat) : Int)]))]) (by kernel_rfl) (by kernel_rfl) (by simp only [conj, and_true, true_and, addO_eq, Nat.zero_add, Int.toNat_natCast]; omega)) ?_
  rintro k o σ ⟨rfl, rfl, rfl⟩
  exact ⟨rfl, rfl, by rw [upd_rowN]; rfl⟩

def crI (F : Nat → Nat) (p : Nat × Nat × (Nat → Nat)) : Prop := p.1 ≤ 16 ∧ p.2.1 < 11 ∧ (∀ k, k < p.1 → p.2.2 k < 65536) ∧ (∀ k, p.1 ≤ k → p.2.2 k = F k) ∧ num p.2.2 p.1 + p.2.1 * 65536 ^ p.1 = num F p.1

theorem crI_step {F G : Nat → Nat} {v i : Nat} (hi : i < 16) (hF : F i < 655360) (h : crI F (i, v, G)) : crI F (i + 1, (v + G i) / 65536, upd G i ((v + G i) % 65536)) := by
  obtain ⟨h1, h2, h3, h4, h5⟩ := h
  simp only at h1 h2 h3 h4 h5
  have e0 := h4 i (Nat.le_refl _)
  refine ⟨hi, by show (v + G i) / 65536 < 11; omega, fun k hk => ?_, fun k hk => ?_, ?_⟩
  · have hk' : k < i + 1 := hk
    show upd G i ((v + G i) % 65536) k < 65536
    by_cases e : k = i
    · subst e; rw [upd_same]; exact Nat.mod_lt _ (by omega)
    · rw [upd_ne G _ e]; exact h3 k (by omega)
  · have hk' : i + 1 ≤ k := hk
    show upd G i ((v + G i) % 65536) k = F k
    rw [upd_ne G _ (by omega)]; exact h4 k (by omega)
  · show num (upd G i ((v + G i) % 65536)) (i + 1) + (v + G i) / 65536 * 65536 ^ (i + 1) = num F i + F i * 65536 ^ i
    have e1 := num_upd G (j := i) (u := (v + G i) % 65536) (k := i + 1) (by omega)
    have e2 : (v + G i) / 65536 * 65536 ^ (i + 1) = 65536 * ((v + G i) / 65536) * 65536 ^ i := by rw [Nat.pow_succ]; ac_rfl
    have e3 := Nat.div_add_mod (v + G i) 65536
    have e4 : 65536 * ((v + G i) / 65536) * 65536 ^ i + (v + G i) % 65536 * 65536 ^ i = v * 65536 ^ i + G i * 65536 ^ i := by rw [← Nat.add_mul, e3, Nat.add_mul]
    have e5 : num G (i + 1) = num G i + G i * 65536 ^ i := rfl
    rw [← e0]
    omega

theorem carry_goes {w0 : Base} {F : Nat → Nat} (hF : ∀ i, i < 16 → F i < 655360) : Goes Tryd.prog Tryd.f24.ntmps w0 [.code (bodyOf Tryd.f24)] .norm (kn crA (crH F))
    (Fin (ctx tabM 28) Tryd.f24.results.toList fun r σ => r = .one [.sl 27 1 0 17] ∧ ∃ v G, crI F (16, v, G) ∧ σ.heap 27 = some (.row true 22 1 17 (crF G v))) := by
  refine (goes (ctx_ok tabM_ok 28) mixed rfl (gs := [3, 4]) (gh := []) (orc := way []) (stops := [0]) (f := 3000) (k := [.code (bodyOf Tryd.f24)]) (o := .norm) (σ := (kn crA (crH F))) (cs := [True, True, True]) (k' := (kOf 0 (bodyOf Tryd.f24))) (o' := .norm) (S := (crS 0 0)) (H := (crH F)) (by kernel_rfl) (by kernel_rfl) (by simp [conj])).bind ?_
  rintro k o σ ⟨rfl, rfl, rfl⟩
  have hk : kOf 0 (bodyOf Tryd.f24) = .code (.block 0 (.loop (roundOf 0 (bodyOf Tryd.f24)))) :: restOf 0 (bodyOf Tryd.f24) := by kernel_rfl
  rw [hk]
  refine (goes_loop (fun p : Nat × Nat × (Nat → Nat) => kn (crS p.2.1 p.1) (crH p.2.2)) (crI F) (fun p => 16 - p.1)
    (fun o σ => o = .norm ∧ ∃ v G, crI F (16, v, G) ∧ σ = kn (crS v 16) (crH G)) ?_ (p := (0, 0, F)) ⟨Nat.zero_le _, (by show 0 < 11; omega), fun k h => absurd h (by show ¬ k < 0; omega), fun _ _ => rfl, rfl⟩).bind ?_
  · rintro ⟨i, v, G⟩ hI
    by_cases hi : i < 16
    · have e0 : G i = F i := hI.2.2.2.1 i (Nat.le_refl _)
      refine (cr_round hi hI.2.1 (by show G i < 655360; rw [e0]; exact hF i hi)).mono ?_
      rintro k o σ ⟨rfl, rfl, rfl⟩
      exact ⟨rfl, .inl ⟨rfl, _, crI_step hi (hF i hi) hI, by show 16 - (i + 1) < 16 - i; omega, rfl⟩⟩
    · have h1 : i ≤ 16 := hI.1
      obtain rfl : i = 16 := by omega
      refine (goes (ctx_ok tabM_ok 28) mixed rfl (gs := []) (gh := []) (orc := way [(8, 1)]) (stops := []) (f := 3000) (k := [.code (roundOf 0 (bodyOf Tryd.f24))]) (o := .norm) (σ := (kn (crS v 16) (crH G))) (cs := [True, True, True, ¬(↑(16 : Nat) : Int) < (↑(16 : Nat) : Int)]) (k' := []) (o' := (.exit 0)) (S := (crS v 16)) (H := (crH G)) (by kernel_rfl) (by kernel_rfl) (by simp [conj])).mono ?_
      rintro k o σ ⟨rfl, rfl, rfl⟩
      exact ⟨rfl, .inr ⟨by simp, rfl, v, G, hI, rfl⟩⟩
  · rintro k o σ ⟨rfl, rfl, v, G, hI, rfl⟩
    exact goes_ret (ctx_ok tabM_ok 28) mixed rfl (orc := way []) (stops := []) (f := 3000) (k := (restOf 0 (bodyOf Tryd.f24))) (o := .norm) (σ := (kn (crS v 16) (crH G))) (cs := [True, True, True, (16 : Nat) = (16 : Nat) ∧ (0 : Nat) < (1 : Nat) ∧ (0 : Nat) + (1 : Nat) ≤ (1 : Nat) ∧ ((16 : Nat) + (1 : Nat)) * (8 : Nat) ≤ (140737488355328 : Nat), True]) (o' := .ret) (rs := Tryd.f24.results.toList) (v := (.one [.sl 27 1 0 17])) (H := [(27, .row true 22 1 17 (crF G v))]) (by kernel_rfl) (.inr rfl) (by simp [conj]) fun σ hσ => ⟨rfl, v, G, hI, hσ (27, _) List.mem_cons_self⟩

theorem cr_row {F G : Nat → Nat} {v : Nat} (h : crI F (16, v, G)) : rowC (crF G v) 17 = rowC (rowN (dg (num F 16))) 17 := by
  obtain ⟨_, h2, h3, _, h5⟩ := h
  simp only at h2 h3 h5
  have hd : ∀ k, k < 17 → upd G 16 v k < 65536 := fun k hk => by
    by_cases e : k = 16
    · subst e; rw [upd_same]; omega
    · rw [upd_ne G _ e]; exact h3 k (by omega)
  have e1 : num (upd G 16 v) 17 = num F 16 := by
    have e2 : num (upd G 16 v) 16 = num G 16 := num_congr fun i hi => upd_ne G v (by omega)
    show num (upd G 16 v) 16 + upd G 16 v 16 * 65536 ^ 16 = num F 16
    rw [upd_same, e2, h5]
  refine rowC_congr fun i hi => ?_
  rw [← e1]
  simp only [rowN]
  rw [dg_num hd i hi]
  unfold crF
  by_cases e : i < 16
  · have : Nat.blt i 16 = true := Nat.ble_eq_true_of_le e
    rw [this, upd_ne G _ (by omega)]; rfl
  · obtain rfl : i = 16 := by omega
    rw [upd_same]; rfl

def carryC : Con
  | [[(.sl id 1 0 n, some (.row true 22 1 n1 f))]] =>
    some [⟨n1 = 16 ∧ n = 16 ∧ digs f 16 655360, fun d => .one [.sl d 1 0 17], fun d => .move id d (.row true 22 1 17 (rowN (dg (num (rd f) 16))))⟩]
  | _ => none
def eCarry : Entry := ⟨24, 2, carryC⟩

theorem carry_e : EOK eCarry := by
  constructor
  · intro args outs ho hargs i oc hi hc d
    have ho' : carryC args = some outs := ho
    unfold carryC at ho'
    split at ho'
    · rename_i id n n1 f
      cases ho'
      have hi' := List.mem_of_getElem? hi
      simp only [List.mem_singleton] at hi'
      subst hi'
      refine ⟨(fun d' h => by cases h; rfl), (fun id' h => ?_), (fun id' k' h => ?_), one1 (.inr (.inl ⟨rfl, rfl, rfl⟩))⟩
      · cases h
        exact ⟨_, ⟨_, List.mem_cons_self, _, List.mem_cons_self, rfl⟩, rfl⟩
      · cases h
        exact ⟨rfl, trivial, rowOK_N _ _⟩
    · cases ho'
  · intro args outs ho i oc hi hc ρ w B d hB hargs hd hinj
    have ho' : carryC args = some outs := ho
    unfold carryC at ho'
    split at ho'
    · rename_i id n n1 f
      cases ho'
      have hi' := List.mem_of_getElem? hi
      simp only [List.mem_singleton] at hi'
      subst hi'
      obtain ⟨rfl, rfl, hf⟩ := hc
      refine ⟨Tryd.call24 _ _, ?_⟩
      obtain ⟨id', hid', hbk, _⟩ := (hargs _ List.mem_cons_self _ List.mem_cons_self).2 _ rfl
      cases hid'
      have hBid : B (ρ.b id) := (hbk.lt rfl).1
      have hBlt : ρ.b id < w.heap.size := (hbk.lt rfl).2
      let w0 : Base := ⟨w, fun b => b = ρ.b id ∨ w.heap.size ≤ b, ⟨fun _ => ρ.b id, fun _ => ρ.o id, fun _ => ρ.c id⟩, fun _ h => .inr h⟩
      have hin : InOK w0 [.one [.sl 1000 1 0 16]] (crH (rd f)) := by
        refine ⟨?_, fun id' k hk => ?_, fun id' k hk => ?_, fun i j ki kj hi hj => ?_⟩
        · intro s hs
          simp only [List.mem_singleton] at hs
          subst hs
          exact one1 ⟨rfl, rfl⟩
        · have := lookH_mem hk
          simp only [crH, List.mem_singleton, Prod.mk.injEq] at this
          obtain ⟨rfl, rfl⟩ := this
          obtain ⟨h1, h2, h3, h4, h5, h6⟩ := hbk
          exact BSim.ok (k := .row true 22 1 16 f) (.inr ⟨_, _, _, _, _, _, rfl, rfl, rowOK_N _ _, digs_row hf⟩) ⟨h1, h2, h3, .inl rfl, h5, h6⟩
        · have := lookH_mem hk
          simp only [crH, List.mem_singleton, Prod.mk.injEq] at this
          obtain ⟨rfl, rfl⟩ := this
          trivial
        · have h1 := lookH_mem hi
          have h2 := lookH_mem hj
          simp only [crH, List.mem_singleton, Prod.mk.injEq] at h1 h2
          intro _ _ _
          rw [h1.1, h2.1]
      have hcalls := calls_of (w0 := w0) (ctx_ok tabM_ok 28) Tryd.func24 (c := bodyOf Tryd.f24) rfl rfl (Nat.le_of_ble_eq_true (by kernel_rfl)) hin (carry_goes fun i hi => (hf i hi).2)
      refine hcalls.mono ?_
      rintro e w' ⟨v, σ', ρ', a', ⟨rfl, x, G, hI, hσ⟩, rfl, hr, _⟩
      obtain ⟨h1, h2, h3, h4, h5, cur, h6, h7, h8⟩ := hr.blocks 27 _ hσ
      refine ⟨ρ.set d (ρ'.b 27) (ρ'.c 27), ⟨hr.below.os, hr.below.tape, hr.below.output, hr.below.size, fun i hi => Env.set_ne fun e => hi (by rw [e]; rfl), fun b hb hne => ?_, fun id' k' h => ?_, fun d' h _ => ?_⟩, ?_⟩
      · exact hr.below.block b hb (fun h => by
          rcases h with h | h
          · exact hne id rfl h
          · exact absurd hb (Nat.not_lt.2 h))
      · cases h
        refine own_block (rowOK_N _ _) h2 h3 ?_ h6 h7 (by rw [← cr_row hI]; exact h8)
        rcases h4 with h4 | h4
        · rw [h4]; exact hBid
        · exact hB _ h4
      · cases h
        rcases h4 with h4 | h4
        · exact .inr ⟨id, rfl, by simp [Env.set, upd_same]; exact h4⟩
        · exact .inl (by simp [Env.set, upd_same]; exact h4)
      · have e1 : (Av.sl 27 1 0 17).val ρ' = (Av.sl d 1 0 17).val (ρ.set d (ρ'.b 27) (ρ'.c 27)) := by
          rw [sl_val]; simp [Av.val, h5]
        exact congrArg _ e1
    · cases ho'

end M
end Go.Proofs.YtmjdmhelmgcanaaDoor
