/- An evaluation of straight Go code: what it knows of this program is true. -/
import Derived.Test.YtmjdmhelmgcanaaEvalI
namespace Go.Proofs.Ytmjdmhelmgcanaa
open Go.RowKit

theorem ctx_size (t : TypeId) (n : Nat) (h : sizeTab t = some n) (w : World) : (sizeOf t).run Try.prog w = .ok n w := by
  unfold sizeTab at h
  split at h <;> first
    | (simp only [Option.some.injEq] at h; subst h; simp [go_sem])
    | cases h

theorem ctx_agg (t : TypeId) (n : Nat) (h : sizeTab t = some n) (w : World) : (isAgg t).run Try.prog w = .ok (aggTab t) w := by
  unfold sizeTab at h
  split at h <;> first
    | (simp [go_sem, aggTab]; done)
    | cases h

theorem lm_zero (i : Nat) : lm 0 i = 0 := by unfold lm; simp

theorem ctx_zero (t : TypeId) (l : List (At Kd)) (h : zeroTab t = some l) : (∀ a ∈ l, AtOK0 a) ∧ ∀ ρ w, (zeroValue t).run Try.prog w = .ok (denL ρ l) w := by
  unfold zeroTab at h
  split at h
  all_goals first
    | (simp only [reduceCtorEq] at h; done)
    | skip
  all_goals
    simp only [Option.some.injEq] at h
    subst h
    refine ⟨?_, fun ρ w => ?_⟩
    · simp [AtOK0, pw]
    · simp [go_sem, denL, cellsL, At.cells, At.val, limbs, lm_zero]

theorem ctx_fldA (s : TypeId) (f k : Nat) (t : TypeId) (h : fldTab s f = some (k, t)) (b off : Nat) (w : World) :
    (Instr.fieldAt s (.pointer (some ⟨b, off, none⟩)) f).run Try.prog w = .ok (.pointer (some ⟨b, off + k, none⟩)) w := by
  unfold fldTab at h
  split at h
  all_goals first
    | (simp only [reduceCtorEq] at h; done)
    | (simp only [Option.some.injEq, Prod.mk.injEq] at h; obtain ⟨rfl, rfl⟩ := h; simp [go_sem, Instr.fieldAt, Addr.add])

theorem ctx_fld (s : TypeId) (f k : Nat) (t : TypeId) (n : Nat) (h : fldTab s f = some (k, t)) (hn : sizeTab t = some n) (cs : Array Value) (w : World) (hlt : k + n ≤ cs.size) :
    (Instr.field s (.agg cs) f).run Try.prog w = .ok (if aggTab t then .agg (cs.extract k (k + n)) else cs.getD k undef) w := by
  unfold fldTab at h
  split at h
  all_goals first
    | (simp only [reduceCtorEq] at h; done)
    | (simp only [Option.some.injEq, Prod.mk.injEq] at h; obtain ⟨rfl, rfl⟩ := h
       simp only [sizeTab, Option.some.injEq] at hn
       subst hn
       simp [go_sem, Instr.field, asAgg, part, aggTab]
       try (have h0 : 0 < cs.size := by omega
            simp [h0]))

theorem ctx_build (t : TypeId) (ps : List (Nat × SV Kd)) (l : List (At Kd)) (h : buildTab t ps = some l) : (∀ a ∈ l, AtOK0 a ∨ ∃ p ∈ ps, ∃ m, p.2 = .one m ∧ a ∈ m) ∧
    ∀ ρ w, (Instr.build t (ps.map fun p => (p.1, p.2.den ρ)).toArray).run Try.prog w = .ok (denL ρ l) w := by
  unfold buildTab at h
  split at h
  all_goals first
    | (simp only [reduceCtorEq] at h; done)
    | skip
  · simp only [Option.some.injEq] at h
    subst h
    exact ⟨by simp [AtOK0, pw], fun ρ w => by simp [Instr.build, Instr.fill, go_sem, denL, limbs, lm_zero]⟩
  · rename_i n
    cases hb : decide (0 ≤ n ∧ n < 18446744073709551616) with
    | false => rw [hb] at h; cases h
    | true =>
      rw [hb] at h
      simp only [cond_true, Option.some.injEq] at h
      subst h
      obtain ⟨h0, h1⟩ := of_decide_eq_true hb
      obtain ⟨k, rfl⟩ := Int.eq_ofNat_of_zero_le h0
      have hk : k < 18446744073709551616 := by omega
      have e0 : lm k 0 = k := by rw [lm0]; omega
      have e1 : lm k 1 = 0 := by rw [lm1]; omega
      have e2 : lm k 2 = 0 := by rw [lm2]; omega
      have e3 : lm k 3 = 0 := by rw [lm3]; omega
      refine ⟨?_, fun ρ w => ?_⟩
      · intro x hx
        simp only [List.mem_singleton] at hx
        subst hx
        left
        show (k : Int).toNat < pw 4
        rw [pw4, Int.toNat_natCast, top_eq]
        omega
      · simp [Instr.build, Instr.fill, go_sem, denL, limbs, SV.den, At.val, Value.cells, e0, e1, e2, e3]
  · simp only [Option.some.injEq] at h
    subst h
    exact ⟨by simp [AtOK0, pw], fun ρ w => by simp [Instr.build, Instr.fill, go_sem, denL, cellsL, At.cells, limbs, lm_zero]⟩
  · simp only [Option.some.injEq] at h
    subst h
    exact ⟨by simp [AtOK0, pw], fun ρ w => by simp [Instr.build, Instr.fill, go_sem, denL, cellsL, At.cells, limbs, lm_zero, SV.den, Value.cells]⟩
  · simp only [Option.some.injEq] at h
    subst h
    exact ⟨by simp [AtOK0, pw], fun ρ w => by simp [Instr.build, Instr.fill, go_sem, denL, cellsL, At.cells, limbs, SV.den, Value.cells]⟩
  · simp only [Option.some.injEq] at h
    subst h
    exact ⟨by simp [AtOK0, pw], fun ρ w => by simp [Instr.build, Instr.fill, go_sem, denL, cellsL, At.cells, At.val, limbs, lm_zero]⟩
  · simp only [Option.some.injEq] at h
    subst h
    exact ⟨by simp [AtOK0], fun ρ w => by simp [Instr.build, Instr.fill, go_sem, denL, cellsL, At.cells, At.val, limbs, SV.den, Value.cells]⟩
  · simp only [Option.some.injEq] at h
    subst h
    exact ⟨by simp [AtOK0, pw], fun ρ w => by simp [Instr.build, Instr.fill, go_sem, denL, limbs, lm_zero]⟩

theorem ctx_inv (tab : List (Nat × Con)) (nt : Nat) : CtxInv (ctx tab nt) where
  stable := fun k v w w' h hb => ⟨h.1.stable hb, h.2⟩
  cell := fun k v w h => by obtain ⟨a, c, e, _⟩ := h.1; exact ⟨a, _, c, e⟩

theorem eqGuard28 (op : BinOp) (x y : Operand) (xs ys : Array Value) (w : World) : (eqGuard op 28 x y (.agg xs) (.agg ys)).run Try.prog w = .ok () w := by simp [go_sem]

theorem ctx_eq (t : TypeId) (l m : List (At Kd)) (p : Prop) (h : eqTab t l m = some p) : isAggL l = true ∧ isAggL m = true ∧ ∀ ρ, (∀ n x, At.big n x ∈ l → x < pw n) → (∀ n x, At.big n x ∈ m → x < pw n) →
    ∀ b, (p ↔ b = true) → ∀ w x y,
    (do eqGuard .eql t x y (denL ρ l) (denL ρ m); binOp .eql t (denL ρ l) (denL ρ m)).run Try.prog w = .ok (.bool b) w ∧
    (do eqGuard .neq t x y (denL ρ l) (denL ρ m); binOp .neq t (denL ρ l) (denL ρ m)).run Try.prog w = .ok (.bool (!b)) w := by
  unfold eqTab at h
  split at h
  all_goals first
    | (simp only [reduceCtorEq] at h; done)
    | skip
  · rename_i a c
    simp only [Option.some.injEq] at h
    subst h
    refine ⟨rfl, rfl, fun ρ hl hm b hb w x y => ?_⟩
    have ha : a < TOP := by rw [← pw4]; exact hl 4 a (by simp)
    have hc : c < TOP := by rw [← pw4]; exact hm 4 c (by simp)
    have := eqNum 9998 ha hc hb w
    simp only [denL]
    constructor <;> simp [go_sem, this]
  · rename_i a b c d
    simp only [Option.some.injEq] at h
    subst h
    refine ⟨rfl, rfl, fun ρ hl hm r hr w x y => ?_⟩
    have ha : a < TOP := by rw [← pw4]; exact hl 4 a (by simp)
    have hb : b < TOP := by rw [← pw4]; exact hl 4 b (by simp)
    have hc : c < TOP := by rw [← pw4]; exact hm 4 c (by simp)
    have hd : d < TOP := by rw [← pw4]; exact hm 4 d (by simp)
    have h1 := fun (q : Bool) (hq : a = c ↔ q = true) => eqNum 9997 ha hc hq w
    have h2 := fun (q : Bool) (hq : b = d ↔ q = true) => eqNum 9997 hb hd hq w
    simp only [limbs4] at h1 h2
    by_cases e1 : a = c
    · have g1 := h1 true (by simp [e1])
      by_cases e2 : b = d
      · have g2 := h2 true (by simp [e2])
        have : r = true := hr.1 ⟨e1, e2⟩
        subst this
        constructor <;> simp [go_sem, denL, cellsL, At.cells, limbs4, g1, g2]
      · have g2 := h2 false (by simp [e2])
        have : r = false := by cases r; rfl; exact absurd (hr.2 rfl).2 e2
        subst this
        constructor <;> simp [go_sem, denL, cellsL, At.cells, limbs4, g1, g2]
    · have g1 := h1 false (by simp [e1])
      have : r = false := by cases r; rfl; exact absurd (hr.2 rfl).1 e1
      subst this
      constructor <;> simp [go_sem, denL, cellsL, At.cells, limbs4, g1]
  all_goals
    rename_i a b c d
    simp only [Option.some.injEq] at h
    subst h
    refine ⟨rfl, rfl, fun ρ hl hm r hr w x y => ?_⟩
    have hb : b < TOP := by rw [← pw4]; exact hl 4 b (by simp)
    have hd : d < TOP := by rw [← pw4]; exact hm 4 d (by simp)
    have h2 := fun (q : Bool) (hq : b = d ↔ q = true) => eqNum 9997 hb hd hq w
    simp only [limbs4] at h2
    by_cases e1 : a = c
    · by_cases e2 : b = d
      · have g2 := h2 true (by simp [e2])
        have : r = true := hr.1 ⟨e1, e2⟩
        subst this
        constructor <;> simp [go_sem, denL, cellsL, At.cells, At.val, limbs4, g2, e1]
      · have g2 := h2 false (by simp [e2])
        have : r = false := by cases r; rfl; exact absurd (hr.2 rfl).2 e2
        subst this
        constructor <;> simp [go_sem, denL, cellsL, At.cells, At.val, limbs4, g2, e1]
    · have : r = false := by cases r; rfl; exact absurd (hr.2 rfl).1 e1
      subst this
      constructor <;> simp [go_sem, denL, cellsL, At.cells, At.val, limbs4, e1]

theorem ctx_conv (s d : TypeId) (k k' : IntKind) (h : convTab s d k = some k') (n : Int) (h0 : 0 ≤ n) (h1 : n < 18446744073709551616) (w : World) : (convert s d (.int k n)).run Try.prog w = .ok (.int k' n) w := by
  unfold convTab at h
  split at h
  · simp only [Option.some.injEq] at h
    subst h
    have hm : n % 18446744073709551616 = n := by omega
    have hw : IntKind.u64.wrap n = n := by simpa [IntKind.wrap, IntKind.bits, IntKind.signed] using hm
    simp [go_sem, hw]
  · cases h

theorem ctx_ok {tab : List (Nat × Con)} (ht : TabOK tab) (nt : Nat) : CtxOK Try.prog (ctx tab nt) where
  toCtxInv := ctx_inv tab nt
  size := ctx_size
  agg := ctx_agg
  sliceT := fun t h => by
    simp only [ctx, Bool.or_eq_true] at h
    have h' : (t = 22 ∨ t = 25) ∨ t = 74 := h.imp (fun h => h.imp Nat.eq_of_beq_eq_true Nat.eq_of_beq_eq_true) Nat.eq_of_beq_eq_true
    rcases h' with (rfl | rfl) | rfl
    · exact ⟨_, Try.underlying22⟩
    · exact ⟨_, Try.underlying25⟩
    · exact ⟨_, Try.underlying74⟩
  boolT := fun t h => by
    have : t = 4 := Nat.eq_of_beq_eq_true h
    subst this
    exact Try.underlying4
  zero := ctx_zero
  fldA := ctx_fldA
  fld := ctx_fld
  build := ctx_build
  eq := ctx_eq
  conv := ctx_conv
  len := fun k v w h => by obtain ⟨a, c, e, _⟩ := h.1; exact ⟨a, c, e⟩
  con := fun f args outs h i oc hi hc ρ w d h1 h2 => ((findC_ok ht f) args outs h i oc hi).2 hc ρ w d nt h1 h2

theorem ctx_d {tab : List (Nat × Con)} (ht : TabOK tab) (nt : Nat) : CtxD (ctx tab nt) where
  zero := fun t l h => (ctx_zero t l h).1
  build := fun t ps l h => (ctx_build t ps l h).1
  con := fun f args outs h i oc hi d => ((findC_ok ht f) args outs h i oc hi).1 d

end Go.Proofs.Ytmjdmhelmgcanaa
