/- An evaluation of straight Go code: what it knows of this program: its types, how its values are compared and built. -/
import Derived.Test.YtmjdmhelmgcanaaEvalH
namespace Go.Proofs.Ytmjdmhelmgcanaa
open Go.RowKit

/-- a kind of a thing in memory: coins, amounts by a number, bytes -/
inductive Kd where
  | coins (l : List (Nat × Nat))
  | somes (l : List (Nat × Nat))
  | bytes (l : List Nat)

def Kd.len : Kd → Nat
  | .coins l => l.length
  | .somes l => l.length
  | .bytes l => l.length

def pairCells (p : Nat × Nat) : List Value := .int .u8 p.1 :: limbs p.2 4
def Kd.cells : Kd → List Value
  | .coins l => l.flatMap pairCells
  | .somes l => l.flatMap pairCells
  | .bytes l => l.map fun (b : Nat) => Value.int .u8 (b : Int)
def Kd.okay : Kd → Prop
  | .coins l => ∀ p ∈ l, p.1 < 256 ∧ p.2 < TOP
  | .somes l => ∀ p ∈ l, p.1 < 256 ∧ p.2 < TOP
  | .bytes l => ∀ b ∈ l, b < 256

/-- a slice reads so -/
def Reads (w : World) (v : Value) (n : Nat) (cells : List Value) : Prop :=
  ∃ a c, v = .slice a n c ∧ n ≤ c ∧ c ≤ maxLen ∧ match a with
    | none => n = 0 ∧ c = 0 ∧ cells = []
    | some ad => ad.spot = none ∧ ∀ j u, cells[j]? = some u → w.cell? ⟨ad.block, ad.off + j, none⟩ = some u

def Kd.inv (k : Kd) (v : Value) (w : World) : Prop := Reads w v k.len k.cells ∧ k.okay

theorem Reads.stable {w w' : World} {v : Value} {n : Nat} {cells : List Value} (h : Reads w v n cells) (hb : ∀ b, v.ownBlock = some b → w'.heap[b]? = w.heap[b]?) : Reads w' v n cells := by
  obtain ⟨a, c, rfl, h1, h2, h3⟩ := h
  refine ⟨a, c, rfl, h1, h2, ?_⟩
  cases a with
  | none => exact h3
  | some ad =>
    refine ⟨h3.1, fun j u hu => ?_⟩
    rw [World.cell?_of_block (w := w) (a := ⟨ad.block, ad.off + j, none⟩) (hb ad.block rfl)]
    exact h3.2 j u hu

theorem eq28 (d : Nat) (a0 a1 a2 a3 b0 b1 b2 b3 : Int) (w : World) : (Op.equalIn (d + 2) 28 (.agg #[.int .u64 a0, .int .u64 a1, .int .u64 a2, .int .u64 a3]) (.agg #[.int .u64 b0, .int .u64 b1, .int .u64 b2, .int .u64 b3])).run Try.prog w = .ok (decide (a0 = b0 ∧ a1 = b1 ∧ a2 = b2 ∧ a3 = b3)) w := by
  unfold Op.equalIn
  have r : List.range' 0 4 = [0, 1, 2, 3] := rfl
  simp only [go_sem, Std.Legacy.Range.forIn_eq_forIn_range', Std.Legacy.Range.size]
  simp [go_sem, r]
  by_cases h0 : a0 = b0
  · by_cases h1 : a1 = b1
    · by_cases h2 : a2 = b2
      · by_cases h3 : a3 = b3
        · subst h0 h1 h2 h3; simp [go_sem]
        · simp [go_sem, h0, h1, h2, h3]
      · simp [go_sem, h0, h1, h2]
    · simp [go_sem, h0, h1]
  · simp [go_sem, h0]

theorem limbs4 (x : Nat) : limbs x 4 = [.int .u64 (lm x 0), .int .u64 (lm x 1), .int .u64 (lm x 2), .int .u64 (lm x 3)] := by simp [limbs]
theorem den_num (ρ : Env) (x : Nat) : (SV.one [At.big 4 x] : SV Kd).den ρ = V x := by simp [SV.den, denL, limbs4, V, V4]

theorem lm_eq_iff {x y : Nat} (hx : x < TOP) (hy : y < TOP) : ((lm x 0 : Int) = lm y 0 ∧ (lm x 1 : Int) = lm y 1 ∧ (lm x 2 : Int) = lm y 2 ∧ (lm x 3 : Int) = lm y 3) ↔ x = y := by
  constructor
  · rintro ⟨h0, h1, h2, h3⟩
    rw [← mk4_lm hx, ← mk4_lm hy, Int.natCast_inj.1 h0, Int.natCast_inj.1 h1, Int.natCast_inj.1 h2, Int.natCast_inj.1 h3]
  · rintro rfl; exact ⟨rfl, rfl, rfl, rfl⟩

/-- two numbers compared at any depth -/
theorem eqNum (d : Nat) {x y : Nat} (hx : x < TOP) (hy : y < TOP) {b : Bool} (h : x = y ↔ b = true) (w : World) :
    (Op.equalIn (d + 2) 28 (.agg (limbs x 4).toArray) (.agg (limbs y 4).toArray)).run Try.prog w = .ok b w := by
  rw [limbs4, limbs4]
  have := eq28 d (lm x 0) (lm x 1) (lm x 2) (lm x 3) (lm y 0) (lm y 1) (lm y 2) (lm y 3) w
  have hb : decide ((lm x 0 : Int) = lm y 0 ∧ (lm x 1 : Int) = lm y 1 ∧ (lm x 2 : Int) = lm y 2 ∧ (lm x 3 : Int) = lm y 3) = b := by
    rw [Bool.eq_iff_iff, decide_eq_true_iff]
    exact (lm_eq_iff hx hy).trans h
  rw [hb] at this
  exact this

def numA : At Kd → Option (Nat × Nat)
  | .big n x => some (n, x)
  | _ => none

/-- what is compared of two values, part by part -/
def eqA : At Kd → At Kd → Option Prop
  | .big 4 x, .big 4 y => some (x = y)
  | .lit k a, .lit k' b => if k = k' then some (a = b) else none
  | .lit k a, .int k' b => if k = k' then some (a = b) else none
  | .int k a, .lit k' b => if k = k' then some (a = b) else none
  | .int k a, .int k' b => if k = k' then some (a = b) else none
  | _, _ => none

def eqTab : TypeId → List (At Kd) → List (At Kd) → Option Prop
  | 28, [.big 4 x], [.big 4 y] => some (x = y)
  | 41, [.big 4 a, .big 4 b], [.big 4 c, .big 4 d] => some (a = c ∧ b = d)
  | 60, [.lit .u8 a, .big 4 b], [.lit .u8 c, .big 4 d] => some (a = c ∧ b = d)
  | 60, [.int .u8 a, .big 4 b], [.lit .u8 c, .big 4 d] => some (a = c ∧ b = d)
  | _, _, _ => none

def sizeTab : TypeId → Option Nat
  | 3 => some 1
  | 4 => some 1
  | 5 => some 1
  | 26 => some 1
  | 28 => some 4
  | 34 => some 1
  | 41 => some 8
  | 60 => some 5
  | 64 => some 1
  | 99 => some 8
  | _ => none
def aggTab : TypeId → Bool
  | 28 => true
  | 41 => true
  | 60 => true
  | 99 => true
  | _ => false
def zeroTab : TypeId → Option (List (At Kd))
  | 3 => some [.lit .i64 0]
  | 28 => some [.big 4 0]
  | 41 => some [.big 4 0, .big 4 0]
  | 60 => some [.lit .u8 0, .big 4 0]
  | 99 => some [.big 8 0]
  | _ => none
def fldTab : TypeId → Nat → Option (Nat × TypeId)
  | 41, 0 => some (0, 28)
  | 41, 1 => some (4, 28)
  | 60, 0 => some (0, 5)
  | 60, 1 => some (1, 28)
  | _, _ => none
def buildTab : TypeId → List (Nat × SV Kd) → Option (List (At Kd))
  | 28, [] => some [.big 4 0]
  | 28, [(0, .one [.lit .u64 n])] => bif decide (0 ≤ n ∧ n < 18446744073709551616) then some [.big 4 n.toNat] else none
  | 41, [] => some [.big 4 0, .big 4 0]
  | 41, [(0, .one [.big 4 a])] => some [.big 4 a, .big 4 0]
  | 41, [(0, .one [.big 4 a]), (1, .one [.big 4 b])] => some [.big 4 a, .big 4 b]
  | 60, [] => some [.lit .u8 0, .big 4 0]
  | 60, [(0, .one [.lit .u8 d]), (1, .one [.big 4 b])] => some [.lit .u8 d, .big 4 b]
  | 99, [] => some [.big 8 0]
  | _, _ => none
def convTab : TypeId → TypeId → IntKind → Option IntKind
  | 64, 26, .u16 => some .u64
  | _, _, _ => none

/-- what a call comes to: each way, when, with what (no names in it) -/
abbrev PCon := List (SV Kd) → Option (List (Prop × SV Kd))
/-- with one thing that the call made, at most -/
abbrev Con := List (SV Kd) → Option (List (Outc Kd))

def findC (f : Nat) : List (Nat × Con) → Con
  | [] => fun _ => none
  | (g, c) :: r => fun args => bif Nat.beq f g then c args else findC f r args

/-- the evaluation's knowledge, with what is known of calls -/
def ctx (tab : List (Nat × Con)) (nt : Nat) : Ctx Kd where
  nt := nt
  size := sizeTab
  agg := aggTab
  boolT := fun t => Nat.beq t 4
  sliceT := fun t => Nat.beq t 22 || Nat.beq t 25 || Nat.beq t 74
  zero := zeroTab
  fld := fldTab
  build := buildTab
  eqT := eqTab
  conv := convTab
  con := fun f args => findC f tab args
  inv := Kd.inv
  len := Kd.len

/-- a contract of a call is true -/
def ConOK (f : Nat) (c : Con) : Prop :=
  ∀ args outs, c args = some outs → ∀ (i : Nat) oc, outs[i]? = some oc → (∀ d, (oc.r d).all (At.inD1 d)) ∧
    (oc.c → ∀ ρ w d nt, (∀ s ∈ args, s.all (ArgOK (ctx [] nt) ρ w)) → (∀ s ∈ args, s.all fun a => ∀ k, a ≠ .obj d k) →
      (callFunc f (args.map (SV.den ρ)).toArray).run Try.prog w = .ok (.enter f (args.map (SV.den ρ)).toArray) w ∧
      Calls Try.prog f (args.map (SV.den ρ)).toArray w fun e w' => Below w.heap.size w w' ∧ ∃ v, e = .returned ((oc.r d).den { ρ with v := upd ρ.v d v }) ∧ (oc.r d).all (RetOK (ctx [] nt) d w v w'))

def TabOK (tab : List (Nat × Con)) : Prop := ∀ p ∈ tab, ConOK p.1 p.2

theorem findC_ok {tab : List (Nat × Con)} (h : TabOK tab) (f : Nat) : ConOK f (findC f tab) := by
  induction tab with
  | nil => intro args outs h; cases h
  | cons p r ih =>
    obtain ⟨g, c⟩ := p
    intro args outs ho
    simp only [findC] at ho
    cases hb : Nat.beq f g with
    | false => rw [hb] at ho; exact ih (fun q hq => h q (List.mem_cons_of_mem _ hq)) args outs ho
    | true =>
      rw [hb] at ho
      obtain rfl : f = g := Nat.eq_of_beq_eq_true hb
      exact h _ List.mem_cons_self args outs ho

theorem mixed : Try.prog.follows .mixedOrders = true := by kernel_rfl

end Go.Proofs.Ytmjdmhelmgcanaa
