/- Joined out of smaller texts: Mm, Mn, Mo. -/
import Derived.Test.YtmjdmhelmgcanaaXD
import Derived.Test.YtmjdmhelmgcanaaXA
import Derived.OwnWalk
/- A machine that evaluates code: code, loops, functions. -/
namespace Go.Proofs.Ytmjdmhelmgcanaa
namespace M
open Go.RowKit
variable {P : Program} {C : Ctx} {w0 : Base} {w w' : World} {ρ ρ' : Env} {σ σ' : Ms} {a : Act}

inductive Out where
  | norm
  | exit (id : Nat)
  | ret

def Out.to : Out → Exit
  | .norm => .normal
  | .exit id => .exit id
  | .ret => .ret

def Out.inBlock (id : Nat) : Out → Out
  | .exit i => bif Nat.beq i id then .norm else .exit i
  | o => o

/-- what is still to be done: code; the end of a block; so many rounds more -/
inductive Fr where
  | code (c : Code)
  | endb (id : Nat)
  | more (c : Code) (n : Nat)

def wpK (P : Program) (Q : Exit → Act → World → Prop) : List Fr → Exit → Act → World → Prop
  | [] => Q
  | .code c :: k => Exit.then (c.wp P (wpK P Q k)) (wpK P Q k)
  | .endb id :: k => Exit.inBlock id (wpK P Q k)
  | .more c n :: k => Exit.then (Code.rounds P c (wpK P Q k) n) (wpK P Q k)

def isIn (id : Nat) : List Nat → Bool
  | [] => false
  | i :: l => Nat.beq i id || isIn id l

/-- the machine runs, up to a block among these -/
def runK (C : Ctx) (orc : Nat → Nat) (stops : List Nat) : Nat → List Fr → Out → Ms → Option (List Prop × List Fr × Out × Ms)
  | 0, _, _, _ => none
  | _ + 1, [], o, σ => some ([], [], o, σ)
  | f + 1, .endb id :: k, o, σ => runK C orc stops f k (o.inBlock id) σ
  | f + 1, .more c n :: k, o, σ => (match o with
      | .norm => (match n with
        | 0 => none
        | n + 1 => runK C orc stops f (.code c :: .more c n :: k) .norm σ)
      | o => runK C orc stops f k o σ)
  | f + 1, .code c :: k, o, σ => (match o with
      | .norm => (match c with
        | .skip => runK C orc stops f k .norm σ
        | .region _ ops draw => bif draw && !lexI C (frozen ops.toList σ.slots) ops ops.size 0 (Array.replicate ops.size false) then none else (runL C orc ops ops.toList σ).bind fun q => (runK C orc stops f k .norm q.2).map fun r => (q.1 ++ r.1, r.2)
        | .seq x y => runK C orc stops f (.code x :: .code y :: k) .norm σ
        | .cond c x y => (valsOf C.nt σ.slots c).bind fun v => (boolS v).bind fun b => runK C orc stops f (.code (bif b then x else y) :: k) .norm σ
        | .block id x => bif isIn id stops then some ([], .code (.block id x) :: k, .norm, σ) else runK C orc stops f (.code x :: .endb id :: k) .norm σ
        | .loop x => runK C orc stops f (.code x :: .more x 63 :: k) .norm σ
        | .exit id => runK C orc stops f k (.exit id) σ
        | .ret => runK C orc stops f k .ret σ
        | _ => none)
      | o => runK C orc stops f k o σ)

theorem wpK_code_other {Q : Exit → Act → World → Prop} {c : Code} {k : List Fr} {o : Out} (h : o ≠ .norm) (hw : wpK P Q k o.to a w) : wpK P Q (.code c :: k) o.to a w := by
  cases o with
  | norm => exact absurd rfl h
  | exit id => exact hw
  | ret => exact hw

theorem wpK_endb {Q : Exit → Act → World → Prop} {id : Nat} {k : List Fr} {o : Out} (hw : wpK P Q k (o.inBlock id).to a w) : wpK P Q (.endb id :: k) o.to a w := by
  cases o with
  | norm => exact hw
  | ret => exact hw
  | exit i =>
    show Exit.inBlock id (wpK P Q k) (.exit i) a w
    cases hb : Nat.beq i id with
    | true =>
      have hi : i = id := Nat.eq_of_beq_eq_true hb
      simp only [Out.inBlock, hb, cond_true, Out.to] at hw
      simp only [Exit.inBlock, hi, if_true]
      exact hw
    | false =>
      have hi : i ≠ id := fun e => by subst e; simp at hb
      simp only [Out.inBlock, hb, cond_false, Out.to] at hw
      simp only [Exit.inBlock, hi, if_false]
      exact hw

theorem runK_sound (OK : CtxOK P C) (hm : P.follows .mixedOrders = true) {orc : Nat → Nat} {stops : List Nat} {Q : Exit → Act → World → Prop} : ∀ (f : Nat) (k : List Fr) (o : Out) (σ : Ms) (ρ : Env) (a : Act) (w : World) (cs : List Prop) (k' : List Fr) (o' : Out) (σ' : Ms),
    runK C orc stops f k o σ = some (cs, k', o', σ') → conj cs → Rep C.nt w0 ρ σ a w → (∀ ρ a w, Rep C.nt w0 ρ σ' a w → wpK P Q k' o'.to a w) → wpK P Q k o.to a w := by
  intro f
  induction f with
  | zero => intro k o σ ρ a w cs k' o' σ' h; cases h
  | succ f ih =>
    intro k o σ ρ a w cs k' o' σ' h hc hr hQ
    cases k with
    | nil =>
      simp only [runK, Option.some.injEq, Prod.mk.injEq] at h
      obtain ⟨_, rfl, rfl, rfl⟩ := h
      exact hQ ρ a w hr
    | cons x k =>
      cases x with
      | endb id =>
        simp only [runK] at h
        exact wpK_endb (ih _ _ _ ρ a w _ _ _ _ h hc hr hQ)
      | more c n =>
        simp only [runK] at h
        cases o with
        | norm =>
          cases n with
          | zero => cases h
          | succ n => exact ih (.code c :: .more c n :: k) .norm σ ρ a w _ _ _ _ h hc hr hQ
        | exit id => exact ih k (.exit id) σ ρ a w _ _ _ _ h hc hr hQ
        | ret => exact ih k .ret σ ρ a w _ _ _ _ h hc hr hQ
      | code c =>
        simp only [runK] at h
        cases o with
        | exit id => exact ih k (.exit id) σ ρ a w _ _ _ _ h hc hr hQ
        | ret => exact ih k .ret σ ρ a w _ _ _ _ h hc hr hQ
        | norm =>
          show c.wp P (wpK P Q k) a w
          cases c with
          | skip => exact wp_skip (ih k .norm σ ρ a w _ _ _ _ h hc hr hQ)
          | region id ops draw =>
            simp only at h
            cases hB : (draw && !lexI C (frozen ops.toList σ.slots) ops ops.size 0 (Array.replicate ops.size false)) with
            | true => rw [hB] at h; cases h
            | false =>
              rw [hB] at h
              obtain ⟨⟨cs1, σ1⟩, h1, h2⟩ := Option.bind_eq_some_iff.1 ((cond_false _ _).symm.trans h)
              obtain ⟨⟨cs2, k2, o2, σ2⟩, h3, h4⟩ := Option.map_eq_some_iff.1 h2
              simp only [Prod.mk.injEq] at h4
              obtain ⟨rfl, rfl, rfl, rfl⟩ := h4
              rw [conj_append] at hc
              have hn : ∀ ρ' a' w', Rep C.nt w0 ρ' σ1 a' w' → wpK P Q k .normal a' w' := fun ρ' a' w' h' => ih k .norm σ1 ρ' a' w' cs2 k2 o2 σ2 h3 hc.2 h' hQ
              cases draw with
              | false => exact region_sound OK h1 hc.1 hr hn
              | true =>
                have hB' : lexI C (frozen ops.toList σ.slots) ops ops.size 0 (Array.replicate ops.size false) = true := by simpa using hB
                exact region_draw_sound OK hm hB' h1 hc.1 hr hn
          | seq x y => exact wp_seq (ih (.code x :: .code y :: k) .norm σ ρ a w _ _ _ _ h hc hr hQ)
          | cond c x y =>
            obtain ⟨v, h1, h⟩ := Option.bind_eq_some_iff.1 h
            obtain ⟨b, h2, h⟩ := Option.bind_eq_some_iff.1 h
            have e1 := valsOf_eval hr h1
            rw [boolS_spec h2] at e1
            have e1' : a.eval c = .bool b := e1
            have := ih (.code (bif b then x else y) :: k) .norm σ ρ a w _ _ _ _ h hc hr hQ
            cases b with
            | true => exact wp_cond_true e1' this
            | false => exact wp_cond_false e1' this
          | block id x =>
            simp only at h
            cases hs : isIn id stops with
            | true =>
              rw [hs] at h
              cases h
              exact hQ ρ a w hr
            | false =>
              rw [hs] at h
              exact wp_block (ih (.code x :: .endb id :: k) .norm σ ρ a w _ _ _ _ ((cond_false _ _).symm.trans h) hc hr hQ)
          | loop x => exact wp_loop_rounds 64 (ih (.code x :: .more x 63 :: k) .norm σ ρ a w _ _ _ _ h hc hr hQ)
          | exit id => exact wp_exit (ih k (.exit id) σ ρ a w _ _ _ _ h hc hr hQ)
          | ret => exact wp_ret (ih k .ret σ ρ a w _ _ _ _ h hc hr hQ)
          | _ => cases h

/-- from a state, whatever happens, one of these is come to -/
def Goes (P : Program) (nt : Nat) (w0 : Base) (k : List Fr) (o : Out) (σ : Ms) (Z : List Fr → Out → Ms → Prop) : Prop :=
  ∀ Q : Exit → Act → World → Prop, (∀ k' o' σ', Z k' o' σ' → ∀ ρ a w, Rep nt w0 ρ σ' a w → wpK P Q k' o'.to a w) → ∀ ρ a w, Rep nt w0 ρ σ a w → wpK P Q k o.to a w

theorem Goes.bind {nt : Nat} {k : List Fr} {o : Out} {Z Z' : List Fr → Out → Ms → Prop} (h : Goes P nt w0 k o σ Z) (h' : ∀ k' o' σ', Z k' o' σ' → Goes P nt w0 k' o' σ' Z') : Goes P nt w0 k o σ Z' :=
  fun Q hQ => h Q fun k' o' σ' hz => h' k' o' σ' hz Q hQ
theorem Goes.mono {nt : Nat} {k : List Fr} {o : Out} {Z Z' : List Fr → Out → Ms → Prop} (h : Goes P nt w0 k o σ Z) (h' : ∀ k' o' σ', Z k' o' σ' → Z' k' o' σ') : Goes P nt w0 k o σ Z' :=
  fun Q hQ => h Q fun k' o' σ' hz => hQ k' o' σ' (h' _ _ _ hz)

/-! ## States by lists -/

def lookS : List (Nat × Sv) → Nat → Sv
  | [], _ => .any
  | (i, v) :: l, j => bif Nat.beq i j then v else lookS l j
def lookH : List (Nat × Bk) → Nat → Option Bk
  | [], _ => none
  | (i, v) :: l, j => bif Nat.beq i j then some v else lookH l j

def kn (S : List (Nat × Sv)) (H : List (Nat × Bk)) : Ms := { slots := lookS S, heap := lookH H, dom := fun i => Nat.ble 1000 i || (lookH H i).isSome }

def closedA (H : List (Nat × Bk)) (a : Av) : Bool :=
  match a.name with
  | some id => (lookH H id).isSome
  | none => true
def closedV (H : List (Nat × Bk)) : Sv → Bool
  | .one l => l.all (closedA H)
  | .tup l => l.all fun m => m.all (closedA H)
  | .any => true
def closedK (H : List (Nat × Bk)) : Bk → Bool
  | .var l _ => l.all (closedA H)
  | .arr l _ => l.all (closedA H)
  | _ => true
def closedB (nt : Nat) (S : List (Nat × Sv)) (H : List (Nat × Bk)) : Bool :=
  S.all (fun p => Nat.blt p.1 nt && closedV H p.2) && H.all (fun p => closedK H p.2)

theorem lookS_mem : ∀ {S : List (Nat × Sv)} {i : Nat}, lookS S i = .any ∨ (i, lookS S i) ∈ S
  | [], i => .inl rfl
  | (j, v) :: l, i => by
    simp only [lookS]
    cases hb : Nat.beq j i with
    | true =>
      have : j = i := Nat.eq_of_beq_eq_true hb
      subst this
      exact .inr List.mem_cons_self
    | false =>
      rcases lookS_mem (S := l) (i := i) with h | h
      · exact .inl h
      · exact .inr (List.mem_cons_of_mem _ h)
theorem lookH_mem : ∀ {H : List (Nat × Bk)} {i : Nat} {k : Bk}, lookH H i = some k → (i, k) ∈ H
  | [], i, k, h => by cases h
  | (j, v) :: l, i, k, h => by
    simp only [lookH] at h
    cases hb : Nat.beq j i with
    | true =>
      rw [hb] at h
      cases h
      have : j = i := Nat.eq_of_beq_eq_true hb
      subst this
      exact List.mem_cons_self
    | false =>
      rw [hb] at h
      exact List.mem_cons_of_mem _ (lookH_mem h)

theorem AvOK.kn {S : List (Nat × Sv)} {H : List (Nat × Bk)} {x : Av} (h : AvOK σ x) (hc : closedA H x = true) : AvOK (kn S H) x := by
  unfold AvOK at *
  unfold closedA at hc
  cases hn : x.name with
  | none => rw [hn] at h; exact h
  | some id =>
    rw [hn] at hc
    refine ⟨?_, hc⟩
    show (Nat.ble 1000 id || (lookH H id).isSome) = true
    have hc' : (lookH H id).isSome = true := hc
    rw [hc', Bool.or_true]

/-- a literal is a number -/
def genA : Av → Av
  | .lit k n => .int k n
  | a => a
def genV (b : Bool) : Sv → Sv
  | .one l => bif b then .one (l.map genA) else .one l
  | v => v
def genK (b : Bool) : Bk → Bk
  | .var l t => bif b then .var (l.map genA) t else .var l t
  | k => k

theorem genA_val (ρ : Env) (x : Av) : (genA x).val ρ = x.val ρ ∧ (genA x).cells ρ = x.cells ρ ∧ (genA x).name = x.name ∧ (genA x).agg = x.agg := by cases x <;> exact ⟨rfl, rfl, rfl, rfl⟩
theorem genA_ok {x : Av} (h : AvOK σ x) : AvOK σ (genA x) := by cases x <;> first | exact h | trivial
theorem gen_cells (ρ : Env) (l : List Av) : cellsL ρ (l.map genA) = cellsL ρ l := by
  induction l with
  | nil => rfl
  | cons a l ih => rw [List.map_cons, cellsL_cons, cellsL_cons, ih, (genA_val ρ a).2.1]
theorem gen_den (ρ : Env) (l : List Av) : denL ρ (l.map genA) = denL ρ l := by
  cases l with
  | nil => rfl
  | cons a m =>
    cases m with
    | nil => exact (genA_val ρ a).1
    | cons b m =>
      show Value.agg (cellsL ρ ((a :: b :: m).map genA)).toArray = Value.agg (cellsL ρ (a :: b :: m)).toArray
      rw [gen_cells]
theorem genV_den (ρ : Env) (b : Bool) (v : Sv) : (genV b v).den ρ = v.den ρ := by
  cases v with
  | one l => cases b with
    | true => exact gen_den ρ l
    | false => rfl
  | tup l => rfl
  | any => rfl
theorem genV_ok {b : Bool} {v : Sv} (h : v.all (AvOK σ)) : (genV b v).all (AvOK σ) := by
  cases v with
  | one l => cases b with
    | true =>
      intro x hx
      obtain ⟨y, hy, rfl⟩ := List.mem_map.1 hx
      exact genA_ok (h y hy)
    | false => exact h
  | tup l => exact h
  | any => exact h
theorem genV_any {b : Bool} {v : Sv} (h : v = .any) : genV b v = .any := by subst h; rfl
theorem genK_ok {B : Nat → Prop} {b : Bool} {id : Nat} {k : Bk} (h : BkOK ρ w B id k) : BkOK ρ w B id (genK b k) := by
  cases k with
  | var l t => cases b with
    | true => exact ⟨h.1, by rw [gen_cells]; exact h.2⟩
    | false => exact h
  | arr l t => exact h
  | row o e es n f => exact h
  | dead => exact h
theorem genK_named {b : Bool} {k : Bk} (h : k.named (AvOK σ)) : (genK b k).named (AvOK σ) := by
  cases k with
  | var l t => cases b with
    | true =>
      intro x hx
      obtain ⟨y, hy, rfl⟩ := List.mem_map.1 hx
      exact genA_ok (h y hy)
    | false => exact h
  | arr l t => exact h
  | row o e es n f => trivial
  | dead => trivial
theorem genK_own {b : Bool} {k : Bk} : (genK b k).own = k.own := by
  cases k with
  | var l t => cases b <;> rfl
  | _ => rfl

/-- less is known: these slots and these names -/
theorem Rep.look {nt : Nat} (h : Rep nt w0 ρ σ a w) {gs gh : List Nat} {S : List (Nat × Sv)} {H : List (Nat × Bk)} (hS : ∀ p ∈ S, genV (isIn p.1 gs) (σ.slots p.1) = p.2) (hH : ∀ p ∈ H, (σ.heap p.1).map (genK (isIn p.1 gh)) = some p.2) (hc : closedB nt S H = true) : Rep nt w0 ρ (kn S H) a w := by
  unfold closedB at hc
  simp only [Bool.and_eq_true, List.all_eq_true] at hc
  obtain ⟨c1, c2⟩ := hc
  have hk0 : ∀ id k, lookH H id = some k → ∃ k0, σ.heap id = some k0 ∧ k = genK (isIn id gh) k0 := fun id k hk => by
    obtain ⟨k0, h1, h2⟩ := Option.map_eq_some_iff.1 (hH _ (lookH_mem hk))
    exact ⟨k0, h1, h2.symm⟩
  refine ⟨h.size, h.defers, fun i hi => ?_, h.below, fun id k hk => ?_, fun i j ki kj hi hj oi oj => ?_, fun i => ?_, fun id k hk => ?_, fun id hid => ?_, fun i hi => ⟨?_, (h.names i hi).2⟩⟩
  rotate_right
  · show (Nat.ble 1000 i || (lookH H i).isSome) = true
    rw [Nat.ble_eq_true_of_le hi, Bool.true_or]
  · rcases lookS_mem (S := S) (i := i) with h1 | h1
    · exact .inl h1
    · have h2 := hS _ h1
      simp only at h2
      rcases h.slots i hi with h3 | h3
      · left
        show lookS S i = .any
        rw [← h2]
        exact genV_any h3
      · right
        show a.eval (.tmp i) = (lookS S i).den ρ
        rw [← h2, genV_den, h3]
  · obtain ⟨k0, h1, rfl⟩ := hk0 id k hk
    exact genK_ok (h.blocks id k0 h1)
  · obtain ⟨k0, h1, rfl⟩ := hk0 i ki hi
    obtain ⟨k1, h2, rfl⟩ := hk0 j kj hj
    rw [genK_own] at oi oj
    exact h.inj i j k0 k1 h1 h2 oi oj
  · rcases lookS_mem (S := S) (i := i) with h1 | h1
    · show (lookS S i).all _
      rw [h1]
      trivial
    · have h2 := (c1 _ h1).2
      have h3 := genV_ok (b := isIn i gs) (h.okS i)
      have h4 := hS _ h1
      simp only at h4
      rw [h4] at h3
      show (lookS S i).all _
      simp only at h2 h3
      generalize lookS S i = v at h2 h3
      cases v with
      | one l => exact fun x hx => (h3 x hx).kn (List.all_eq_true.1 h2 x hx)
      | tup l => exact fun m hm x hx => (h3 m hm x hx).kn (List.all_eq_true.1 (List.all_eq_true.1 h2 m hm) x hx)
      | any => trivial
  · have h2 := c2 _ (lookH_mem hk)
    obtain ⟨k0, h1, e⟩ := hk0 id k hk
    have h3 := genK_named (b := isIn id gh) (h.okH id k0 h1)
    rw [← e] at h3
    cases k with
    | var l t => exact fun x hx => (h3 x hx).kn (List.all_eq_true.1 h2 x hx)
    | arr l t => exact fun x hx => (h3 x hx).kn (List.all_eq_true.1 h2 x hx)
    | _ => trivial
  · show (Nat.ble 1000 id || (lookH H id).isSome) = true
    have : (lookH H id).isSome = true := hid
    rw [this, Bool.or_true]

/-- what is looked at of where the machine has come -/
def see (gs gh is hs : List Nat) (r : Option (List Prop × List Fr × Out × Ms)) : Option (List Prop × List Fr × Out × List Sv × List (Option Bk)) :=
  r.map fun q => (q.1, q.2.1, q.2.2.1, is.map fun i => genV (isIn i gs) (q.2.2.2.slots i), hs.map fun i => (q.2.2.2.heap i).map (genK (isIn i gh)))

theorem map_eq_mem {α β γ : Type} {f : α → γ} {g : β → γ} {l : List (α × β)} (h : (l.map (·.1)).map f = l.map fun p => g p.2) : ∀ p ∈ l, f p.1 = g p.2 := by
  intro p hp
  rw [List.map_map] at h
  exact List.map_inj_left.1 h p hp

/-- the machine runs, and this is known then -/
theorem goes (OK : CtxOK P C) (hm : P.follows .mixedOrders = true) {nt : Nat} (hnt : C.nt = nt) {orc : Nat → Nat} {stops gs gh : List Nat} {f : Nat} {k : List Fr} {o : Out} {cs : List Prop} {k' : List Fr} {o' : Out} {S : List (Nat × Sv)} {H : List (Nat × Bk)}
    (h : see gs gh (S.map (·.1)) (H.map (·.1)) (runK C orc stops f k o σ) = some (cs, k', o', S.map (·.2), H.map fun p => some p.2)) (hcl : closedB nt S H = true) (hc : conj cs) :
    Goes P nt w0 k o σ fun k1 o1 σ1 => k1 = k' ∧ o1 = o' ∧ σ1 = kn S H := by
  intro Q hQ ρ a w hr
  subst hnt
  obtain ⟨⟨cs1, k1, o1, σ1⟩, h1, h2⟩ := Option.map_eq_some_iff.1 h
  simp only [Prod.mk.injEq] at h2
  obtain ⟨rfl, rfl, rfl, h3, h4⟩ := h2
  have hS := map_eq_mem (f := fun i => genV (isIn i gs) (σ1.slots i)) (g := id) h3
  have hH := map_eq_mem (f := fun i => (σ1.heap i).map (genK (isIn i gh))) (g := some) h4
  exact runK_sound OK hm f k o σ ρ a w cs1 k1 o1 σ1 h1 hc hr fun ρ a w h' => hQ k1 o1 _ ⟨rfl, rfl, rfl⟩ ρ a w (h'.look hS hH hcl)

/-- a loop -/
theorem goes_loop {nt : Nat} {ι : Type} {id : Nat} {x : Code} {k : List Fr} (st : ι → Ms) (Inv : ι → Prop) (μ : ι → Nat) (E : Out → Ms → Prop)
    (round : ∀ p, Inv p → Goes P nt w0 [.code x] .norm (st p) fun k' o' σ' => k' = [] ∧ ((o' = .norm ∧ ∃ p', Inv p' ∧ μ p' < μ p ∧ σ' = st p') ∨ (o' ≠ .norm ∧ E (o'.inBlock id) σ')))
    {p : ι} (hp : Inv p) : Goes P nt w0 (.code (.block id (.loop x)) :: k) .norm (st p) fun k' o' σ' => k' = k ∧ E o' σ' := by
  intro Q hQ ρ a w hr
  show (Code.block id (.loop x)).wp P (wpK P Q k) a w
  refine wp_block ?_
  have key : ∀ n p, μ p < n → Inv p → ∀ ρ a w, Rep nt w0 ρ (st p) a w → Code.rounds P x (Exit.inBlock id (wpK P Q k)) n a w := by
    intro n
    induction n with
    | zero => intro p h; omega
    | succ n ih =>
      intro p hlt hinv ρ a w hr
      rw [rounds_succ]
      have := round p hinv (Exit.then (Code.rounds P x (Exit.inBlock id (wpK P Q k)) n) (Exit.inBlock id (wpK P Q k))) (fun k' o' σ' hz ρ a w hr' => by
        obtain ⟨rfl, hz⟩ := hz
        rcases hz with ⟨rfl, p', hi', hμ, rfl⟩ | ⟨hne, hE⟩
        · exact ih p' (by omega) hi' ρ a w hr'
        · have h1 := wpK_endb (hQ k _ σ' ⟨rfl, hE⟩ ρ a w hr')
          show Exit.then _ _ o'.to a w
          cases o' with
          | norm => exact absurd rfl hne
          | exit i => exact h1
          | ret => exact h1) ρ a w hr
      exact this
  exact wp_loop_rounds (μ p + 1) (key _ p (Nat.lt_succ_self _) hp ρ a w hr)

end M
end Go.Proofs.Ytmjdmhelmgcanaa

/- A machine that evaluates code: what a function hands back; calls. -/
namespace Go.Proofs.Ytmjdmhelmgcanaa
namespace M
open Go.RowKit
variable {P : Program} {C : Ctx} {w0 : Base} {w w' : World} {ρ ρ' : Env} {σ σ' : Ms} {a : Act}

def ptrS : Sv → Option (Nat × Nat)
  | .one [.ptr id off] => some (id, off)
  | _ => none
theorem ptrS_spec {v : Sv} {id off : Nat} (h : ptrS v = some (id, off)) : v = .one [.ptr id off] := by
  unfold ptrS at h; split at h <;> simp_all

/-- where the results are -/
def resOf (C : Ctx) (σ : Ms) : ResultVar → Option (List Av)
  | .tmp t => bif Nat.blt t C.nt then oneS (σ.slots t) else none
  | .cell p t => bif Nat.blt p C.nt then (ptrS (σ.slots p)).bind fun q => bif Nat.beq q.2 0 then (σ.heap q.1).bind fun k => (match k with
      | .var l _ => (C.size t).bind fun n => bif Nat.beq n (sizeL l) && (isAggL l == C.agg t) then some l else none
      | _ => none) else none else none

def oneRes (r : ResultVar) (tmps : Array Value) : Sem Value :=
  match r with
  | .tmp t => pure (tmps.getD t undef)
  | .cell a t => do loadVar t (← asAddr (tmps.getD a undef))

theorem oneRes_run (OK : CtxOK P C) (h : Rep C.nt w0 ρ σ a w) {r : ResultVar} {l : List Av} (hr : resOf C σ r = some l) : (oneRes r a.tmps).run P w = .ok (denL ρ l) w ∧ ∀ x ∈ l, AvOK σ x := by
  cases r with
  | tmp t =>
    simp only [resOf] at hr
    cases hb : Nat.blt t C.nt with
    | false => rw [hb] at hr; cases hr
    | true =>
      rw [hb] at hr
      have h1 := oneS_spec ((cond_true _ _).symm.trans hr)
      have h2 := h.slots t (Nat.le_of_ble_eq_true hb)
      have h3 := h.okS t
      rw [h1] at h2 h3
      rcases h2 with h2 | h2
      · cases h2
      refine ⟨?_, h3⟩
      have h2' : a.tmps.getD t undef = denL ρ l := h2
      simp only [oneRes, h2']
      rfl
  | cell p t =>
    simp only [resOf] at hr
    cases hb : Nat.blt p C.nt with
    | false => rw [hb] at hr; cases hr
    | true =>
      rw [hb] at hr
      obtain ⟨⟨id, off⟩, h1, hr⟩ := Option.bind_eq_some_iff.1 ((cond_true _ _).symm.trans hr)
      simp only at hr
      cases hoff : Nat.beq off 0 with
      | false => rw [hoff] at hr; cases hr
      | true =>
        rw [hoff] at hr
        obtain rfl : off = 0 := Nat.eq_of_beq_eq_true hoff
        obtain ⟨k, h3, hr⟩ := Option.bind_eq_some_iff.1 ((cond_true _ _).symm.trans hr)
        split at hr
        · rename_i m ty
          obtain ⟨n, h4, hr⟩ := Option.bind_eq_some_iff.1 hr
          cases hg : (Nat.beq n (sizeL m) && (isAggL m == C.agg t)) with
          | false => rw [hg] at hr; cases hr
          | true =>
            rw [hg] at hr
            cases hr
            rw [Bool.and_eq_true] at hg
            have hn : n = sizeL l := Nat.eq_of_beq_eq_true hg.1
            have hg' : isAggL l = C.agg t := by simpa using hg.2
            have h2 := h.slots p (Nat.le_of_ble_eq_true hb)
            rw [ptrS_spec h1] at h2
            rcases h2 with h2 | h2
            · cases h2
            have h2' : a.tmps.getD p undef = .pointer (some ⟨ρ.b id, 0, none⟩) := h2
            obtain ⟨_, hcell⟩ := h.blocks id _ h3
            refine ⟨?_, h.okH id _ h3⟩
            have hload := run_loadVar (P := P) (w := w) (ρ := ρ) (b := ρ.b id) (off := 0) OK h4 hn.symm hg' fun j u hu => by
              rw [Nat.zero_add, cell_of_row w _ _ _ _ _ hcell]
              simpa using hu
            simp only [oneRes, h2']
            simp [asAddr, hload]
        · cases hr

def resAll (C : Ctx) (σ : Ms) : List ResultVar → Option Sv
  | [r] => (resOf C σ r).map .one
  | [r, s] => (resOf C σ r).bind fun x => (resOf C σ s).map fun y => .tup [x, y]
  | _ => none

theorem resAll_run (OK : CtxOK P C) (h : Rep C.nt w0 ρ σ a w) {fn : Func} {v : Sv} (hr : resAll C σ fn.results.toList = some v) : (results fn a.tmps).run P w = .ok (v.den ρ) w ∧ v.all (AvOK σ) := by
  unfold resAll at hr
  split at hr
  · rename_i r hl
    obtain ⟨l, h1, rfl⟩ := Option.map_eq_some_iff.1 hr
    obtain ⟨h2, h3⟩ := oneRes_run OK h h1
    have hfn : fn.results = #[r] := by apply Array.ext'; simpa using hl
    refine ⟨?_, h3⟩
    unfold results
    rw [hfn]
    have : (oneRes r a.tmps).run P w = .ok (denL ρ l) w := h2
    cases r <;> simp only [oneRes] at this <;> simp [Sv.den] <;> simpa using this
  · rename_i r s hl
    obtain ⟨x, h1, hr⟩ := Option.bind_eq_some_iff.1 hr
    obtain ⟨y, h1', rfl⟩ := Option.map_eq_some_iff.1 hr
    obtain ⟨h2, h3⟩ := oneRes_run OK h h1
    obtain ⟨h2', h3'⟩ := oneRes_run OK h h1'
    have hfn : fn.results = #[r, s] := by apply Array.ext'; simpa using hl
    refine ⟨?_, ?_⟩
    · have e1 : (oneRes r a.tmps).run P w = .ok (denL ρ x) w := h2
      have e2 : (oneRes s a.tmps).run P w = .ok (denL ρ y) w := h2'
      have : (results fn a.tmps).run P w = (do let u ← oneRes r a.tmps; let v ← oneRes s a.tmps; pure (.tuple #[u, v]) : Sem Value).run P w := by
        unfold results
        rw [hfn]
        cases r <;> cases s <;> simp [oneRes]
      rw [this]
      simp [e1, e2, Sv.den]
    · intro m hm
      simp only [List.mem_cons, List.not_mem_nil, or_false] at hm
      rcases hm with rfl | rfl
      · exact h3
      · exact h3'
  · cases hr

/-- the machine runs to a return -/
def seeR (C : Ctx) (rs : List ResultVar) (hs : List Nat) (r : Option (List Prop × List Fr × Out × Ms)) : Option (List Prop × List Fr × Out × Sv × List (Option Bk)) :=
  r.bind fun q => (resAll C q.2.2.2 rs).map fun v => (q.1, q.2.1, q.2.2.1, v, hs.map q.2.2.2.heap)

/-- a call has come to its end, with this value; these names are known -/
def Fin (C : Ctx) (rs : List ResultVar) (R : Sv → Ms → Prop) (k : List Fr) (o : Out) (σ : Ms) : Prop := k = [] ∧ (o = .norm ∨ o = .ret) ∧ ∃ v, resAll C σ rs = some v ∧ R v σ

theorem goes_ret (OK : CtxOK P C) (hm : P.follows .mixedOrders = true) {nt : Nat} (hnt : C.nt = nt) {orc : Nat → Nat} {stops : List Nat} {f : Nat} {k : List Fr} {o : Out} {cs : List Prop} {o' : Out} {rs : List ResultVar} {v : Sv} {H : List (Nat × Bk)}
    (h : seeR C rs (H.map (·.1)) (runK C orc stops f k o σ) = some (cs, [], o', v, H.map fun p => some p.2)) (ho : o' = .norm ∨ o' = .ret) (hc : conj cs) {R : Sv → Ms → Prop} (hR : ∀ σ, (∀ p ∈ H, σ.heap p.1 = some p.2) → R v σ) :
    Goes P nt w0 k o σ (Fin C rs R) := by
  intro Q hQ ρ a w hr
  subst hnt
  obtain ⟨⟨cs1, k1, o1, σ1⟩, h1, h2⟩ := Option.bind_eq_some_iff.1 h
  obtain ⟨v1, h3, h4⟩ := Option.map_eq_some_iff.1 h2
  simp only [Prod.mk.injEq] at h4
  obtain ⟨rfl, rfl, rfl, rfl, h5⟩ := h4
  exact runK_sound OK hm f k o σ ρ a w cs1 [] o1 σ1 h1 hc hr fun ρ a w h' => hQ [] o1 σ1 ⟨rfl, ho, _, h3, hR σ1 (map_eq_mem (f := σ1.heap) (g := some) h5)⟩ ρ a w h'

/-- the arguments' slots -/
def argS : Nat → List Sv → List (Nat × Sv)
  | _, [] => []
  | i, v :: l => (i, v) :: argS (i + 1) l

theorem lookS_argS : ∀ (args : List Sv) (k i : Nat), lookS (argS k args) i = .any ∨ ∃ j, i = k + j ∧ args[j]? = some (lookS (argS k args) i)
  | [], k, i => .inl rfl
  | v :: l, k, i => by
    simp only [argS, lookS]
    cases hb : Nat.beq k i with
    | true => exact .inr ⟨0, (Nat.eq_of_beq_eq_true hb).symm, rfl⟩
    | false =>
      rcases lookS_argS l (k + 1) i with h | ⟨j, h1, h2⟩
      · exact .inl h
      · exact .inr ⟨j + 1, by omega, by simpa using h2⟩

/-- what is handed in -/
structure InOK (w0 : Base) (args : List Sv) (H : List (Nat × Bk)) : Prop where
  argok : ∀ s ∈ args, s.all (AvOK (kn (argS 0 args) H))
  blocks : ∀ id k, lookH H id = some k → BkOK w0.ρ w0.w w0.F id k
  named : ∀ id k, lookH H id = some k → k.named (AvOK (kn (argS 0 args) H))
  inj : ∀ i j ki kj, lookH H i = some ki → lookH H j = some kj → ki.own = true → kj.own = true → w0.ρ.b i = w0.ρ.b j → i = j

theorem calls_of (OK : CtxOK P C) {f : FuncId} {fn : Func} {c : Code} (hf : P.funcs[f]? = some fn) (hb : fn.body = some c) (hnt : C.nt = fn.ntmps) {args : List Sv} {H : List (Nat × Bk)} (hlen : args.length ≤ fn.ntmps) (hin : InOK w0 args H)
    {R : Sv → Ms → Prop} (g : Goes P fn.ntmps w0 [.code c] .norm (kn (argS 0 args) H) (Fin C fn.results.toList R)) :
    Calls P f (args.map (Sv.den w0.ρ)).toArray w0.w fun e w' => ∃ v σ' ρ' a', R v σ' ∧ e = .returned (v.den ρ') ∧ Rep fn.ntmps w0 ρ' σ' a' w' ∧ v.all (AvOK σ') := by
  have hrep : Rep fn.ntmps w0 w0.ρ (kn (argS 0 args) H) { tmps := (args.map (Sv.den w0.ρ)).toArray ++ Array.replicate (fn.ntmps - (args.map (Sv.den w0.ρ)).toArray.size) undef, defers := [] } w0.w := by
    refine ⟨?_, rfl, fun i hi => ?_, ⟨rfl, rfl, rfl, Nat.le_refl _, fun _ _ _ => rfl⟩, hin.blocks, hin.inj, fun i => ?_, hin.named, fun id hid => ?_, fun i hi => ⟨?_, rfl, rfl, rfl⟩⟩
    rotate_right
    · show (Nat.ble 1000 i || (lookH H i).isSome) = true
      rw [Nat.ble_eq_true_of_le hi, Bool.true_or]
    · simp only [Array.size_append, List.size_toArray, List.length_map, Array.size_replicate]; omega
    · rcases lookS_argS args 0 i with h | ⟨j, h1, h2⟩
      · exact .inl h
      · right
        rw [Nat.zero_add] at h1
        subst h1
        have hlt : i < args.length := (List.getElem?_eq_some_iff.1 h2).1
        have h3 : args[i] = lookS (argS 0 args) i := (List.getElem?_eq_some_iff.1 h2).2
        show Act.eval _ _ = (lookS (argS 0 args) i).den w0.ρ
        rw [← h3]
        simp [Act.eval, Array.getElem?_append, hlt]
    · rcases lookS_argS args 0 i with h | ⟨j, h1, h2⟩
      · show (lookS (argS 0 args) i).all _
        rw [h]; trivial
      · exact hin.argok _ (List.mem_of_getElem? h2)
    · show (Nat.ble 1000 id || (lookH H id).isSome) = true
      have : (lookH H id).isSome = true := hid
      rw [this, Bool.or_true]
  refine calls_of_wp hf hb ?_
  exact g (bodyPost P fn _) (fun k o σ' hz ρ' a' w' hr' => by
    obtain ⟨rfl, ho, v, hv, hR⟩ := hz
    rw [← hnt] at hr'
    obtain ⟨h1, h2⟩ := resAll_run (P := P) (fn := fn) OK hr' hv
    rw [hnt] at hr'
    rcases ho with rfl | rfl
    · exact ⟨hr'.defers, _, h1, v, σ', ρ', a', hR, rfl, hr', h2⟩
    · exact ⟨hr'.defers, _, h1, v, σ', ρ', a', hR, rfl, hr', h2⟩) w0.ρ _ _ hrep

end M
end Go.Proofs.Ytmjdmhelmgcanaa

/- What the machine knows of this program: its types, how its values are compared and built. -/
namespace Go.Proofs.Ytmjdmhelmgcanaa
namespace M
open Go.RowKit

theorem words4 (x : Nat) : words x 4 = [.int .u64 (lm x 0), .int .u64 (lm x 1), .int .u64 (lm x 2), .int .u64 (lm x 3)] := by simp [words]
theorem den_num (ρ : Env) (x : Nat) : (Sv.one [Av.big 4 x]).den ρ = V x := by simp [Sv.den, denL, Av.val, words4, V, V4]
theorem denL_num (ρ : Env) (x : Nat) : denL ρ [Av.big 4 x] = V x := den_num ρ x

/-- two numbers compared at any depth -/
theorem eqNum (d : Nat) {x y : Nat} (hx : x < TOP) (hy : y < TOP) {b : Bool} (h : x = y ↔ b = true) (w : World) :
    (Op.equalIn (d + 2) 28 (.agg (words x 4).toArray) (.agg (words y 4).toArray)).run Try.prog w = .ok b w := by
  rw [words4, words4]
  have := eq28 d (lm x 0) (lm x 1) (lm x 2) (lm x 3) (lm y 0) (lm y 1) (lm y 2) (lm y 3) w
  have hb : decide ((lm x 0 : Int) = lm y 0 ∧ (lm x 1 : Int) = lm y 1 ∧ (lm x 2 : Int) = lm y 2 ∧ (lm x 3 : Int) = lm y 3) = b := by
    rw [Bool.eq_iff_iff, decide_eq_true_iff]
    exact (lm_eq_iff hx hy).trans h
  rw [hb] at this
  exact this

/-- a byte's number -/
def u8A : Av → Option Int
  | .lit .u8 n => some n
  | .int .u8 n => some n
  | _ => none

def eqTab : TypeId → List Av → List Av → Option Prop
  | 28, [.big 4 x], [.big 4 y] => some (x = y)
  | 41, [.big 4 a, .big 4 b], [.big 4 c, .big 4 d] => some (a = c ∧ b = d)
  | 60, [p, .big 4 b], [q, .big 4 d] => (u8A p).bind fun a => (u8A q).map fun c => (a = c ∧ b = d)
  | _, _, _ => none

def sizeTab : TypeId → Option Nat
  | 3 => some 1
  | 4 => some 1
  | 5 => some 1
  | 22 => some 1
  | 26 => some 1
  | 28 => some 4
  | 34 => some 1
  | 41 => some 8
  | 55 => some 1
  | 60 => some 5
  | 64 => some 1
  | 74 => some 1
  | 82 => some 32
  | 84 => some 5
  | 88 => some 1
  | 99 => some 8
  | _ => none
def aggTab : TypeId → Bool
  | 28 => true
  | 41 => true
  | 60 => true
  | 82 => true
  | 84 => true
  | 99 => true
  | _ => false
def zeroTab : TypeId → Option (List Av)
  | 3 => some [.lit .i64 0]
  | 28 => some [.big 4 0]
  | 41 => some [.big 4 0, .big 4 0]
  | 60 => some [.lit .u8 0, .big 4 0]
  | 82 => some [.vec 4 8 (fun _ => 0)]
  | 99 => some [.big 8 0]
  | _ => none
def fldTab : TypeId → Nat → Option (Nat × TypeId)
  | 41, 0 => some (0, 28)
  | 41, 1 => some (4, 28)
  | 60, 0 => some (0, 5)
  | 60, 1 => some (1, 28)
  | 84, 0 => some (0, 5)
  | 84, 1 => some (1, 28)
  | _, _ => none
def isU8 : Sv → Bool
  | .one [.lit .u8 _] => true
  | .one [.int .u8 _] => true
  | _ => false
def buildTab : TypeId → List (Nat × Sv) → Option (List Av)
  | 28, [] => some [.big 4 0]
  | 28, [(0, .one [.lit .u64 n])] => bif decide (0 ≤ n ∧ n < 18446744073709551616) then some [.big 4 n.toNat] else none
  | 41, [] => some [.big 4 0, .big 4 0]
  | 41, [(0, .one [.big 4 a])] => some [.big 4 a, .big 4 0]
  | 41, [(0, .one [.big 4 a]), (1, .one [.big 4 b])] => some [.big 4 a, .big 4 b]
  | 60, [] => some [.lit .u8 0, .big 4 0]
  | 60, [(0, .one [.lit .u8 d]), (1, .one [.big 4 b])] => some [.lit .u8 d, .big 4 b]
  | 60, [(0, .one [.int .u8 d]), (1, .one [.big 4 b])] => some [.int .u8 d, .big 4 b]
  | 99, [] => some [.big 8 0]
  | _, _ => none
def convTab : TypeId → TypeId → IntKind → Option IntKind
  | 64, 26, .u16 => some .u64
  | 26, 5, .u64 => some .u8
  | 5, 26, .u8 => some .u64
  | 3, 5, .i64 => some .u8
  | _, _, _ => none
def arrTab : TypeId → Option (Nat × Nat)
  | 28 => some (4, 1)
  | 82 => some (8, 4)
  | 99 => some (8, 1)
  | _ => none
def slcTab : TypeId → Option (TypeId × Nat × Nat × List Av)
  | 22 => some (60, 5, 40, [.lit .u8 0, .big 4 0])
  | 25 => some (84, 5, 40, [.lit .u8 0, .big 4 0])
  | 58 => some (22, 1, 24, [.nil])
  | 74 => some (5, 1, 1, [.lit .u8 0])
  | 88 => some (26, 1, 8, [.int .u64 0])
  | _ => none

theorem lm_zero (i : Nat) : lm 0 i = 0 := by unfold lm; simp

theorem tab_size (t : TypeId) (n : Nat) (h : sizeTab t = some n) (w : World) : (sizeOf t).run Try.prog w = .ok n w := by
  unfold sizeTab at h
  split at h <;> first
    | (simp only [Option.some.injEq] at h; subst h; simp [go_sem])
    | cases h
theorem tab_agg (t : TypeId) (n : Nat) (h : sizeTab t = some n) (w : World) : (isAgg t).run Try.prog w = .ok (aggTab t) w := by
  unfold sizeTab at h
  split at h <;> first
    | (simp [go_sem, aggTab]; done)
    | cases h

theorem tab_zero (t : TypeId) (l : List Av) (h : zeroTab t = some l) : (∀ a ∈ l, a.plain) ∧ ∀ w, (zeroValue t).run Try.prog w = .ok (denL ρ0 l) w := by
  unfold zeroTab at h
  split at h
  all_goals first
    | (simp only [reduceCtorEq] at h; done)
    | skip
  all_goals
    simp only [Option.some.injEq] at h
    subst h
    refine ⟨?_, fun w => ?_⟩
    · simp [Av.plain, pow64]
    · simp [go_sem, denL, cellsL, Av.cells, Av.val, words, vecs, lm_zero]

theorem tab_fldA (s : TypeId) (f k : Nat) (t : TypeId) (h : fldTab s f = some (k, t)) (b off : Nat) (w : World) :
    (Instr.fieldAt s (.pointer (some ⟨b, off, none⟩)) f).run Try.prog w = .ok (.pointer (some ⟨b, off + k, none⟩)) w := by
  unfold fldTab at h
  split at h
  all_goals first
    | (simp only [reduceCtorEq] at h; done)
    | (simp only [Option.some.injEq, Prod.mk.injEq] at h; obtain ⟨rfl, rfl⟩ := h; simp [go_sem, Instr.fieldAt, Addr.add])

theorem tab_fld (s : TypeId) (f k : Nat) (t : TypeId) (n : Nat) (h : fldTab s f = some (k, t)) (hn : sizeTab t = some n) (cs : Array Value) (w : World) (hlt : k + n ≤ cs.size) :
    (Instr.field s (.agg cs) f).run Try.prog w = .ok (if aggTab t then .agg (cs.extract k (k + n)) else cs.getD k undef) w := by
  unfold fldTab at h
  split at h
  all_goals first
    | (simp only [reduceCtorEq] at h; done)
    | (simp only [Option.some.injEq, Prod.mk.injEq] at h; obtain ⟨rfl, rfl⟩ := h
       simp only [sizeTab, Option.some.injEq] at hn
       subst hn
       simp [go_sem, Instr.field, asAgg, part, aggTab]
       try (have h0 : 0 < cs.size := by omega
            simp [h0]))

theorem tab_build (t : TypeId) (ps : List (Nat × Sv)) (l : List Av) (h : buildTab t ps = some l) : (∀ a ∈ l, a.plain ∨ ∃ p ∈ ps, ∃ m, p.2 = .one m ∧ a ∈ m) ∧
    ∀ ρ w, (Instr.build t (ps.map fun p => (p.1, p.2.den ρ)).toArray).run Try.prog w = .ok (denL ρ l) w := by
  unfold buildTab at h
  split at h
  all_goals first
    | (simp only [reduceCtorEq] at h; done)
    | skip
  · simp only [Option.some.injEq] at h
    subst h
    exact ⟨by simp [Av.plain, pow64], fun ρ w => by simp [Instr.build, Instr.fill, go_sem, denL, Av.val, words, lm_zero]⟩
  · rename_i n
    cases hb : decide (0 ≤ n ∧ n < 18446744073709551616) with
    | false => rw [hb] at h; cases h
    | true =>
      rw [hb] at h
      simp only [cond_true, Option.some.injEq] at h
      subst h
      obtain ⟨h0, h1⟩ := of_decide_eq_true hb
      obtain ⟨k, rfl⟩ := Int.eq_ofNat_of_zero_le h0
      have hk : k < 18446744073709551616 := by omega
      have e0 : lm k 0 = k := by rw [lm0]; omega
      have e1 : lm k 1 = 0 := by rw [lm1]; omega
      have e2 : lm k 2 = 0 := by rw [lm2]; omega
      have e3 : lm k 3 = 0 := by rw [lm3]; omega
      refine ⟨?_, fun ρ w => ?_⟩
      · intro x hx
        simp only [List.mem_singleton] at hx
        subst hx
        left
        show (k : Int).toNat < pow64 4
        rw [pow64_4, Int.toNat_natCast, top_eq]
        omega
      · simp [Instr.build, Instr.fill, go_sem, denL, words, Sv.den, Av.val, Value.cells, e0, e1, e2, e3]
  · simp only [Option.some.injEq] at h
    subst h
    exact ⟨by simp [Av.plain, pow64], fun ρ w => by simp [Instr.build, Instr.fill, go_sem, denL, cellsL, Av.cells, words, lm_zero]⟩
  · simp only [Option.some.injEq] at h
    subst h
    exact ⟨by simp [Av.plain, pow64], fun ρ w => by simp [Instr.build, Instr.fill, go_sem, denL, cellsL, Av.cells, Av.val, words, lm_zero, Sv.den, Value.cells]⟩
  · simp only [Option.some.injEq] at h
    subst h
    exact ⟨by simp, fun ρ w => by simp [Instr.build, Instr.fill, go_sem, denL, cellsL, Av.cells, Av.val, words, Sv.den, Value.cells]⟩
  · simp only [Option.some.injEq] at h
    subst h
    exact ⟨by simp [Av.plain, pow64], fun ρ w => by simp [Instr.build, Instr.fill, go_sem, denL, cellsL, Av.cells, Av.val, words, lm_zero]⟩
  · simp only [Option.some.injEq] at h
    subst h
    exact ⟨by simp [Av.plain], fun ρ w => by simp [Instr.build, Instr.fill, go_sem, denL, cellsL, Av.cells, Av.val, words, Sv.den, Value.cells]⟩
  · simp only [Option.some.injEq] at h
    subst h
    exact ⟨by simp [Av.plain], fun ρ w => by simp [Instr.build, Instr.fill, go_sem, denL, cellsL, Av.cells, Av.val, words, Sv.den, Value.cells]⟩
  · simp only [Option.some.injEq] at h
    subst h
    exact ⟨by simp [Av.plain, pow64], fun ρ w => by simp [Instr.build, Instr.fill, go_sem, denL, Av.val, words, lm_zero]⟩

theorem eqGuard28 (op : BinOp) (x y : Operand) (xs ys : Array Value) (w : World) : (eqGuard op 28 x y (.agg xs) (.agg ys)).run Try.prog w = .ok () w := by simp [go_sem]

theorem u8A_val {x : Av} {n : Int} (h : u8A x = some n) (ρ : Env) : x.val ρ = .int .u8 n ∧ x.cells ρ = [.int .u8 n] := by
  unfold u8A at h
  split at h <;> cases h <;> exact ⟨rfl, rfl⟩

theorem tab_eq (t : TypeId) (l m : List Av) (p : Prop) (h : eqTab t l m = some p) : isAggL l = true ∧ isAggL m = true ∧ ∀ ρ, (∀ n x, Av.big n x ∈ l → x < pow64 n) → (∀ n x, Av.big n x ∈ m → x < pow64 n) →
    ∀ b, (p ↔ b = true) → ∀ w x y,
    (do eqGuard .eql t x y (denL ρ l) (denL ρ m); binOp .eql t (denL ρ l) (denL ρ m)).run Try.prog w = .ok (.bool b) w ∧
    (do eqGuard .neq t x y (denL ρ l) (denL ρ m); binOp .neq t (denL ρ l) (denL ρ m)).run Try.prog w = .ok (.bool (!b)) w := by
  unfold eqTab at h
  split at h
  all_goals first
    | (simp only [reduceCtorEq] at h; done)
    | skip
  · rename_i a c
    simp only [Option.some.injEq] at h
    subst h
    refine ⟨rfl, rfl, fun ρ hl hm b hb w x y => ?_⟩
    have ha : a < TOP := by rw [← pow64_4]; exact hl 4 a (by simp)
    have hc : c < TOP := by rw [← pow64_4]; exact hm 4 c (by simp)
    have := eqNum 9998 ha hc hb w
    simp only [denL, Av.val]
    constructor <;> simp [go_sem, this]
  · rename_i a b c d
    simp only [Option.some.injEq] at h
    subst h
    refine ⟨rfl, rfl, fun ρ hl hm r hr w x y => ?_⟩
    have ha : a < TOP := by rw [← pow64_4]; exact hl 4 a (by simp)
    have hb : b < TOP := by rw [← pow64_4]; exact hl 4 b (by simp)
    have hc : c < TOP := by rw [← pow64_4]; exact hm 4 c (by simp)
    have hd : d < TOP := by rw [← pow64_4]; exact hm 4 d (by simp)
    have h1 := fun (q : Bool) (hq : a = c ↔ q = true) => eqNum 9997 ha hc hq w
    have h2 := fun (q : Bool) (hq : b = d ↔ q = true) => eqNum 9997 hb hd hq w
    simp only [words4] at h1 h2
    by_cases e1 : a = c
    · have g1 := h1 true (by simp [e1])
      by_cases e2 : b = d
      · have g2 := h2 true (by simp [e2])
        have : r = true := hr.1 ⟨e1, e2⟩
        subst this
        constructor <;> simp [go_sem, denL, cellsL, Av.cells, words4, g1, g2]
      · have g2 := h2 false (by simp [e2])
        have : r = false := by cases r; rfl; exact absurd (hr.2 rfl).2 e2
        subst this
        constructor <;> simp [go_sem, denL, cellsL, Av.cells, words4, g1, g2]
    · have g1 := h1 false (by simp [e1])
      have : r = false := by cases r; rfl; exact absurd (hr.2 rfl).1 e1
      subst this
      constructor <;> simp [go_sem, denL, cellsL, Av.cells, words4, g1]
  · rename_i pa b pc d
    obtain ⟨a, ha', h⟩ := Option.bind_eq_some_iff.1 h
    obtain ⟨c, hc', h⟩ := Option.map_eq_some_iff.1 h
    subst h
    refine ⟨rfl, rfl, fun ρ hl hm r hr w x y => ?_⟩
    have hb : b < TOP := by rw [← pow64_4]; exact hl 4 b (by simp)
    have hd : d < TOP := by rw [← pow64_4]; exact hm 4 d (by simp)
    have h2 := fun (q : Bool) (hq : b = d ↔ q = true) => eqNum 9997 hb hd hq w
    simp only [words4] at h2
    have D : ∀ (q : Av) (n : Int) (z : Nat), u8A q = some n → denL ρ [q, .big 4 z] = .agg #[.int .u8 n, .int .u64 (lm z 0), .int .u64 (lm z 1), .int .u64 (lm z 2), .int .u64 (lm z 3)] := by
      intro q n z hq
      show Value.agg (cellsL ρ [q, .big 4 z]).toArray = _
      rw [cellsL_cons, (u8A_val hq ρ).2]
      simp [cellsL, Av.cells, words4]
    rw [D pa a b ha', D pc c d hc']
    by_cases e1 : a = c
    · by_cases e2 : b = d
      · have g2 := h2 true (by simp [e2])
        have : r = true := hr.1 ⟨e1, e2⟩
        subst this
        constructor <;> simp [go_sem, g2, e1]
      · have g2 := h2 false (by simp [e2])
        have : r = false := by cases r; rfl; exact absurd (hr.2 rfl).2 e2
        subst this
        constructor <;> simp [go_sem, g2, e1]
    · have : r = false := by cases r; rfl; exact absurd (hr.2 rfl).1 e1
      subst this
      constructor <;> simp [go_sem, e1]

theorem tab_conv (s d : TypeId) (k k' : IntKind) (h : convTab s d k = some k') (n : Int) (w : World) : (convert s d (.int k n)).run Try.prog w = .ok (.int k' (k'.wrap n)) w := by
  unfold convTab at h
  split at h
  all_goals first
    | cases h; done
    | (cases h; simp [go_sem])

theorem tab_arr (t : TypeId) (len es : Nat) (h : arrTab t = some (len, es)) : ∃ e, Try.prog.underlying t = some (.array len e) ∧ (∀ w, (sizeOf e).run Try.prog w = .ok es w) ∧ (∀ w, (isAgg e).run Try.prog w = .ok (!Nat.beq es 1) w) ∧ 1 < len := by
  unfold arrTab at h
  split at h
  · cases h; exact ⟨_, Try.underlying28, fun w => by simp [go_sem], fun w => by simp [go_sem], by omega⟩
  · cases h; exact ⟨_, Try.underlying82, fun w => by simp [go_sem], (fun w => by simp [go_sem]; rfl), by omega⟩
  · cases h; exact ⟨_, Try.underlying99, fun w => by simp [go_sem], fun w => by simp [go_sem], by omega⟩
  · cases h

theorem inf60 : (Try.prog.info? 60).map (fun i => (i.zero, i.size, i.bytes)) = some (some (.agg #[.int .u8 0, .int .u64 0, .int .u64 0, .int .u64 0, .int .u64 0]), 5, 40) := by kernel_rfl
theorem inf84 : (Try.prog.info? 84).map (fun i => (i.zero, i.size, i.bytes)) = some (some (.agg #[.int .u8 0, .int .u64 0, .int .u64 0, .int .u64 0, .int .u64 0]), 5, 40) := by kernel_rfl
theorem inf5 : (Try.prog.info? 5).map (fun i => (i.zero, i.size, i.bytes)) = some (some (.int .u8 0), 1, 1) := by kernel_rfl
theorem inf26 : (Try.prog.info? 26).map (fun i => (i.zero, i.size, i.bytes)) = some (some (.int .u64 0), 1, 8) := by kernel_rfl

theorem inf22 : (Try.prog.info? 22).map (fun i => (i.zero, i.size, i.bytes)) = some (some (.slice none 0 0), 1, 24) := by kernel_rfl

theorem tab_slc (t e : TypeId) (es b : Nat) (z : List Av) (h : slcTab t = some (e, es, b, z)) : (0 < es ∧ sizeL z = es ∧ (∀ a ∈ z, a.plain) ∧ 0 < b) ∧
    Try.prog.underlying t = some (.slice e) ∧ ∃ i zv, Try.prog.info? e = some i ∧ i.size = es ∧ i.bytes = b ∧ i.zero = some zv ∧ zv.cells = (cellsL ρ0 z).toArray := by
  have key : ∀ (e : TypeId) (es b : Nat) (z : List Av) (zv : Value), (Try.prog.info? e).map (fun i => (i.zero, i.size, i.bytes)) = some (some zv, es, b) → zv.cells = (cellsL ρ0 z).toArray →
      ∃ i zv, Try.prog.info? e = some i ∧ i.size = es ∧ i.bytes = b ∧ i.zero = some zv ∧ zv.cells = (cellsL ρ0 z).toArray := by
    intro e es b z zv h hz
    obtain ⟨i, hi, h⟩ := Option.map_eq_some_iff.1 h
    simp only [Prod.mk.injEq] at h
    exact ⟨i, zv, hi, h.2.1, h.2.2, h.1, hz⟩
  unfold slcTab at h
  split at h
  · cases h
    exact ⟨⟨by omega, rfl, by simp [Av.plain, pow64], by omega⟩, Try.underlying22, key _ _ _ _ _ inf60 (by simp [cellsL, Av.cells, Av.val, words, lm_zero, Value.cells])⟩
  · cases h
    exact ⟨⟨by omega, rfl, by simp [Av.plain, pow64], by omega⟩, Try.underlying25, key _ _ _ _ _ inf84 (by simp [cellsL, Av.cells, Av.val, words, lm_zero, Value.cells])⟩
  · cases h
    exact ⟨⟨by omega, rfl, by simp [Av.plain], by omega⟩, Try.underlying58, key _ _ _ _ _ inf22 (by simp [cellsL, Av.cells, Av.val, Value.cells])⟩
  · cases h
    exact ⟨⟨by omega, rfl, by simp [Av.plain], by omega⟩, Try.underlying74, key _ _ _ _ _ inf5 (by simp [cellsL, Av.cells, Av.val, Value.cells])⟩
  · cases h
    exact ⟨⟨by omega, rfl, by simp [Av.plain], by omega⟩, Try.underlying88, key _ _ _ _ _ inf26 (by simp [cellsL, Av.cells, Av.val, Value.cells])⟩
  · cases h

end M
end Go.Proofs.Ytmjdmhelmgcanaa
