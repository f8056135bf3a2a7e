/- Joined out of smaller texts: Base, NumA, NumB, NumC, Rng. -/
import Derived.Test.YtmjdmhelmgcanaaDoorProg
import Derived.WalkKit
import Derived.WalkSpells
import Derived.Laws.Externs
import Derived.RangeFuncNested
import Derived.RangeFuncBound
import Derived.RangeFuncCalls
import Derived.RangeFuncLeaves
import Derived.Shelf.Abstract
import Derived.Shelf.RegionOpen
import Derived.OwnWalkIn
import Derived.TacticsInMore
import Derived.LoopNIn
import Derived.LoopIn
import Derived.Lib.Hide
/- Numbers of 256 bits as the program holds them (four parts of 64 bits), and as natural numbers: plain arithmetic, and the value of a number in memory. -/
namespace Go.Proofs.YtmjdmhelmgcanaaDoor
open Go.RowKit

/-- 2^256 -/
def TOP : Nat := 115792089237316195423570985008687907853269984665640564039457584007913129639936
theorem top_eq : TOP = 115792089237316195423570985008687907853269984665640564039457584007913129639936 := rfl
theorem top_pos : 0 < TOP := by rw [top_eq]; omega

/-- a number's i-th part of 64 bits -/
def lm (x i : Nat) : Nat := x / 18446744073709551616 ^ i % 18446744073709551616
/-- the number that four parts are -/
def mk4 (a b c d : Nat) : Nat := a + 18446744073709551616 * b + 340282366920938463463374607431768211456 * c + 6277101735386680763835789423207666416102355444464034512896 * d

/-- four parts as a value -/
def V4 (a b c d : Nat) : Value := .agg #[.int .u64 a, .int .u64 b, .int .u64 c, .int .u64 d]
/-- a number as a value -/
def V (x : Nat) : Value := V4 (lm x 0) (lm x 1) (lm x 2) (lm x 3)

theorem lm_lt (x i : Nat) : lm x i < 18446744073709551616 := Nat.mod_lt _ (by omega)

theorem lm0 (x : Nat) : lm x 0 = x % 18446744073709551616 := by unfold lm; simp
theorem lm1 (x : Nat) : lm x 1 = x / 18446744073709551616 % 18446744073709551616 := by unfold lm; simp
theorem lm2 (x : Nat) : lm x 2 = x / 340282366920938463463374607431768211456 % 18446744073709551616 := by unfold lm; rfl
theorem lm3 (x : Nat) : lm x 3 = x / 6277101735386680763835789423207666416102355444464034512896 % 18446744073709551616 := by unfold lm; rfl

theorem mk4_lm {x : Nat} (h : x < TOP) : mk4 (lm x 0) (lm x 1) (lm x 2) (lm x 3) = x := by
  rw [lm0, lm1, lm2, lm3]; unfold mk4; rw [top_eq] at h; omega

theorem V_mk4 {a b c d : Nat} (ha : a < 18446744073709551616) (hb : b < 18446744073709551616) (hc : c < 18446744073709551616) (hd : d < 18446744073709551616) :
    V (mk4 a b c d) = V4 a b c d := by
  unfold V
  have e0 : lm (mk4 a b c d) 0 = a := by rw [lm0]; unfold mk4; omega
  have e1 : lm (mk4 a b c d) 1 = b := by rw [lm1]; unfold mk4; omega
  have e2 : lm (mk4 a b c d) 2 = c := by rw [lm2]; unfold mk4; omega
  have e3 : lm (mk4 a b c d) 3 = d := by rw [lm3]; unfold mk4; omega
  rw [e0, e1, e2, e3]

theorem mk4_lt {a b c d : Nat} (ha : a < 18446744073709551616) (hb : b < 18446744073709551616) (hc : c < 18446744073709551616) (hd : d < 18446744073709551616) :
    mk4 a b c d < TOP := by unfold mk4; rw [top_eq]; omega

/-- the parts of a number, opened -/
theorem V_open {x : Nat} (h : x < TOP) : ∃ a b c d : Nat, V x = V4 a b c d ∧ a < 18446744073709551616 ∧ b < 18446744073709551616 ∧ c < 18446744073709551616 ∧ d < 18446744073709551616 ∧ x = mk4 a b c d :=
  ⟨_, _, _, _, rfl, lm_lt _ _, lm_lt _ _, lm_lt _ _, lm_lt _ _, (mk4_lm h).symm⟩

theorem V_inj {x y : Nat} (hx : x < TOP) (hy : y < TOP) (h : V x = V y) : x = y := by
  simp only [V, V4, Value.agg.injEq, Array.mk.injEq, List.cons.injEq, Value.int.injEq, true_and, Int.natCast_inj, and_true] at h
  rw [← mk4_lm hx, ← mk4_lm hy, h.1, h.2.1, h.2.2.1, h.2.2.2]

end Go.Proofs.YtmjdmhelmgcanaaDoor

/- num.Add and num.sub: what they answer, in natural numbers. -/
namespace Go.Proofs.YtmjdmhelmgcanaaDoor
open Go.RowKit

/-- the answers 'less', 'the same', 'more' and the like, by the path: a list of slots, each with the way that is taken there -/
def way : List (Nat × Nat) → Nat → Nat
  | [], _ => 0
  | (s, k) :: r, i => bif Nat.beq i s then k else way r i

theorem add64 (x y c : Nat) (hc : c ≤ 1) (w : World) :
    (callFunc 37 #[.int .u64 x, .int .u64 y, .int .u64 c]).run Tryd.prog w =
      .ok (.value (.tuple #[.int .u64 (((x + y + c) % 18446744073709551616 : Nat) : Int), .int .u64 (((x + y + c) / 18446744073709551616 : Nat) : Int)])) w := by
  rw [run_callFunc_extern Tryd.func37 (by kernel_rfl) (by kernel_rfl) (by kernel_rfl) (e := add64Entry) (by kernel_rfl), run_add64 x y c (by omega) (by omega) (by omega) (by omega)]
  simp only [Result.andThen]
  congr 5 <;> omega

/-- the model's row for Sub64 -/
def subEntry : Array Value → Sem Value := fun args => do
  let (x, y, b) ← Extern.MathBitsCarry.three "Sub64" args
  pure (Extern.MathBitsCarry.pair ((x + Extern.MathBitsCarry.m64 - y - b) % Extern.MathBitsCarry.m64) (if x < y + b then 1 else 0))

theorem run_subEntry (x y b : Nat) (hb : b ≤ 1) (w : World) :
    (subEntry #[.int .u64 x, .int .u64 y, .int .u64 b]).run Tryd.prog w =
      .ok (.tuple #[.int .u64 (((x + 18446744073709551616 - y - b) % 18446744073709551616 : Nat) : Int), .int .u64 ((if x < y + b then 1 else 0 : Nat) : Int)]) w := by
  have h : b = 0 ∨ b = 1 := by omega
  rcases h with rfl | rfl <;> rfl

theorem sub64 (x y b : Nat) (hb : b ≤ 1) (w : World) :
    (callFunc 62 #[.int .u64 x, .int .u64 y, .int .u64 b]).run Tryd.prog w =
      .ok (.value (.tuple #[.int .u64 (((x + 18446744073709551616 - y - b) % 18446744073709551616 : Nat) : Int), .int .u64 ((if x < y + b then 1 else 0 : Nat) : Int)])) w := by
  rw [run_callFunc_extern Tryd.func62 (by kernel_rfl) (by kernel_rfl) (by kernel_rfl) (e := subEntry) (by kernel_rfl), run_subEntry x y b hb]
  rfl

/-- one step of a sum -/
theorem add64_ex {x y c : Nat} (hx : x < 18446744073709551616) (hy : y < 18446744073709551616) (hc : c ≤ 1) :
    ∃ s k : Nat, (∀ w, (callFunc 37 #[.int .u64 x, .int .u64 y, .int .u64 c]).run Tryd.prog w = .ok (.value (.tuple #[.int .u64 s, .int .u64 k])) w) ∧
      s < 18446744073709551616 ∧ k ≤ 1 ∧ x + y + c = s + 18446744073709551616 * k :=
  ⟨_, _, add64 x y c hc, Nat.mod_lt _ (by omega), by omega, by omega⟩

theorem sub64_ex {x y c : Nat} (hx : x < 18446744073709551616) (hy : y < 18446744073709551616) (hc : c ≤ 1) :
    ∃ s k : Nat, (∀ w, (callFunc 62 #[.int .u64 x, .int .u64 y, .int .u64 c]).run Tryd.prog w = .ok (.value (.tuple #[.int .u64 s, .int .u64 k])) w) ∧
      s < 18446744073709551616 ∧ k ≤ 1 ∧ x + 18446744073709551616 * k = s + y + c := by
  refine ⟨_, _, sub64 x y c hc, Nat.mod_lt _ (by omega), by split <;> omega, ?_⟩
  split <;> omega

/-- what num.Add answers -/
def addV (x y : Nat) : Value := if x + y < TOP then .tuple #[V (x + y), .int .i64 0] else .tuple #[V 0, .int .i64 2]

set_option maxHeartbeats 1000000 in
theorem add_calls (x y : Nat) (hx : x < TOP) (hy : y < TOP) (w : World) :
    Calls Tryd.prog 17 #[V x, V y] w fun e w' => e = .returned (addV x y) ∧ Below w.heap.size w w' := by
  obtain ⟨a0, a1, a2, a3, hv, ha0, ha1, ha2, ha3, hxe⟩ := V_open hx
  obtain ⟨b0, b1, b2, b3, hu, hb0, hb1, hb2, hb3, hye⟩ := V_open hy
  obtain ⟨s0, c0, h0, hs0, hc0, e0⟩ := add64_ex ha0 hb0 (Nat.zero_le 1)
  obtain ⟨s1, c1, h1, hs1, hc1, e1⟩ := add64_ex ha1 hb1 hc0
  obtain ⟨s2, c2, h2, hs2, hc2, e2⟩ := add64_ex ha2 hb2 hc1
  obtain ⟨s3, c3, h3, hs3, hc3, e3⟩ := add64_ex ha3 hb3 hc2
  rw [hv, hu]
  by_cases hc : c3 = 0
  · have hf : addV x y = .tuple #[V4 s0 s1 s2 s3, .int .i64 0] := by
      have e : x + y = mk4 s0 s1 s2 s3 := by rw [hxe, hye]; unfold mk4; omega
      unfold addV
      rw [e, if_pos (mk4_lt hs0 hs1 hs2 hs3), V_mk4 hs0 hs1 hs2 hs3]
    rw [hf]
    have hn : ((c3 : Int) != 0) = false := by rw [hc]; rfl
    simp only [Int.natCast_zero] at h0
    unfold V4
    clear hv hu hxe hye e0 e1 e2 e3 hc hf ha0 ha1 ha2 ha3 hb0 hb1 hb2 hb3 hs0 hs1 hs2 hs3 hc0 hc1 hc2 hc3 hx hy
    go_enter Tryd.func17, Tryd.ntmps17
    go_wp2
    refine wp_loop_rounds 5 ?_
    rw [rounds_succ]
    go_wp2
    go_region
    go_wp2
    rw [rounds_succ]
    go_wp2
    go_region
    go_wp2
    rw [rounds_succ]
    go_wp2
    go_region
    go_wp2
    rw [rounds_succ]
    go_wp2
    go_region
    go_wp2
    rw [rounds_succ]
    go_wp2
    refine bodyPost_ret (v := .tuple #[.agg #[.int .u64 s0, .int .u64 s1, .int .u64 s2, .int .u64 s3], .int .i64 0]) (by simp [results, Tryd.results17, go_sem]) rfl ⟨rfl, ?_⟩
    repeat (first | exact Below.refl _ _ | refine Below.setCell ?_ (by simp) _ | refine Below.alloc ?_ (by simp <;> omega) _ | refine Below.drew ?_)
  · have hf : addV x y = .tuple #[V4 0 0 0 0, .int .i64 2] := by
      have e : x + y = mk4 s0 s1 s2 s3 + TOP := by rw [hxe, hye, top_eq]; unfold mk4; omega
      have h0 : V 0 = V4 0 0 0 0 := V_mk4 (a := 0) (b := 0) (c := 0) (d := 0) (by omega) (by omega) (by omega) (by omega)
      unfold addV
      rw [e, if_neg (by omega), h0]
    rw [hf]
    have hn : ((c3 : Int) != 0) = true := by rw [bne_iff_ne]; omega
    simp only [Int.natCast_zero] at h0
    unfold V4
    clear hv hu hxe hye e0 e1 e2 e3 hc hf ha0 ha1 ha2 ha3 hb0 hb1 hb2 hb3 hs0 hs1 hs2 hs3 hc0 hc1 hc2 hc3 hx hy
    go_enter Tryd.func17, Tryd.ntmps17
    go_wp2
    refine wp_loop_rounds 5 ?_
    rw [rounds_succ]
    go_wp2
    go_region
    go_wp2
    rw [rounds_succ]
    go_wp2
    go_region
    go_wp2
    rw [rounds_succ]
    go_wp2
    go_region
    go_wp2
    rw [rounds_succ]
    go_wp2
    go_region
    go_wp2
    rw [rounds_succ]
    go_wp2
    refine bodyPost_ret (v := .tuple #[.agg #[.int .u64 0, .int .u64 0, .int .u64 0, .int .u64 0], .int .i64 2]) (by simp [results, Tryd.results17, go_sem]) rfl ⟨rfl, ?_⟩
    repeat (first | exact Below.refl _ _ | refine Below.setCell ?_ (by simp) _ | refine Below.alloc ?_ (by simp <;> omega) _ | refine Below.drew ?_)

/-- what num.sub answers -/
def subV (x y : Nat) : Value := if y ≤ x then .tuple #[V (x - y), .bool false] else .tuple #[V (x + TOP - y), .bool true]

set_option maxHeartbeats 1000000 in
theorem sub_calls (x y : Nat) (hx : x < TOP) (hy : y < TOP) (w : World) :
    Calls Tryd.prog 53 #[V x, V y] w fun e w' => e = .returned (subV x y) ∧ Below w.heap.size w w' := by
  obtain ⟨a0, a1, a2, a3, hv, ha0, ha1, ha2, ha3, hxe⟩ := V_open hx
  obtain ⟨b0, b1, b2, b3, hu, hb0, hb1, hb2, hb3, hye⟩ := V_open hy
  obtain ⟨s0, c0, h0, hs0, hc0, e0⟩ := sub64_ex ha0 hb0 (Nat.zero_le 1)
  obtain ⟨s1, c1, h1, hs1, hc1, e1⟩ := sub64_ex ha1 hb1 hc0
  obtain ⟨s2, c2, h2, hs2, hc2, e2⟩ := sub64_ex ha2 hb2 hc1
  obtain ⟨s3, c3, h3, hs3, hc3, e3⟩ := sub64_ex ha3 hb3 hc2
  obtain ⟨q, hq⟩ : ∃ q : Bool, ((c3 : Int) != 0) = q := ⟨_, rfl⟩
  rw [hv, hu]
  have hf : subV x y = .tuple #[V4 s0 s1 s2 s3, .bool q] := by
    have hl := mk4_lt hs0 hs1 hs2 hs3
    unfold subV
    by_cases hc : c3 = 0
    · have e : x = mk4 s0 s1 s2 s3 + y := by rw [hxe, hye]; unfold mk4; omega
      have hq' : q = false := by rw [← hq, hc]; rfl
      rw [if_pos (by omega), hq', show x - y = mk4 s0 s1 s2 s3 by omega, V_mk4 hs0 hs1 hs2 hs3]
    · have e : x + TOP = mk4 s0 s1 s2 s3 + y := by rw [hxe, hye, top_eq]; unfold mk4; omega
      have hq' : q = true := by rw [← hq, bne_iff_ne]; omega
      rw [if_neg (by omega), hq', show x + TOP - y = mk4 s0 s1 s2 s3 by omega, V_mk4 hs0 hs1 hs2 hs3]
  rw [hf]
  simp only [Int.natCast_zero] at h0
  unfold V4
  clear hv hu hxe hye e0 e1 e2 e3 hf ha0 ha1 ha2 ha3 hb0 hb1 hb2 hb3 hs0 hs1 hs2 hs3 hc0 hc1 hc2 hc3 hx hy
  go_enter Tryd.func53, Tryd.ntmps53
  go_wp2
  refine wp_loop_rounds 5 ?_
  rw [rounds_succ]
  go_wp2
  go_region
  go_wp2
  rw [rounds_succ]
  go_wp2
  go_region
  go_wp2
  rw [rounds_succ]
  go_wp2
  go_region
  go_wp2
  rw [rounds_succ]
  go_wp2
  go_region
  go_wp2
  rw [rounds_succ]
  go_wp2
  refine bodyPost_ret (v := .tuple #[.agg #[.int .u64 s0, .int .u64 s1, .int .u64 s2, .int .u64 s3], .bool q]) (by simp [results, Tryd.results53, go_sem]) rfl ⟨rfl, ?_⟩
  repeat (first | exact Below.refl _ _ | refine Below.setCell ?_ (by simp) _ | refine Below.alloc ?_ (by simp <;> omega) _ | refine Below.drew ?_)

end Go.Proofs.YtmjdmhelmgcanaaDoor

/- num.Cmp: how two numbers stand to one another: the parts are gone through from the highest on, by the library's iterator. -/
namespace Go.Proofs.YtmjdmhelmgcanaaDoor
open Go.RowKit Go.Shelf

attribute [local go_sem] Oper.semAt_some

def bidx : Nat → Int
  | 0 => 3
  | 1 => 2
  | 2 => 1
  | 3 => 0
  | _ => -1
/-- the rounds by their numbers: what has come when k of them are over -/
def fins : Nat → List (Fin 4)
  | 0 => []
  | 1 => [0]
  | 2 => [0, 1]
  | 3 => [0, 1, 2]
  | _ => [0, 1, 2, 3]

theorem fins_last {k : Nat} (hk : k ≤ 4) {ini : List (Fin 4)} {last : Fin 4} (h : fins k = ini ++ [last]) :
    (ini = [] ∧ last = 0) ∨ (ini = [0] ∧ last = 1) ∨ (ini = [0, 1] ∧ last = 2) ∨ (ini = [0, 1, 2] ∧ last = 3) := by
  have hk5 : k = 0 ∨ k = 1 ∨ k = 2 ∨ k = 3 ∨ k = 4 := by omega
  rcases hk5 with rfl | rfl | rfl | rfl | rfl
  · simp [fins] at h
  · obtain ⟨h1, h2⟩ := List.append_inj' (show [] ++ [0] = ini ++ [last] from h) rfl
    exact .inl ⟨h1.symm, by simpa using h2.symm⟩
  · obtain ⟨h1, h2⟩ := List.append_inj' (show [0] ++ [1] = ini ++ [last] from h) rfl
    exact .inr (.inl ⟨h1.symm, by simpa using h2.symm⟩)
  · obtain ⟨h1, h2⟩ := List.append_inj' (show [0, 1] ++ [2] = ini ++ [last] from h) rfl
    exact .inr (.inr (.inl ⟨h1.symm, by simpa using h2.symm⟩))
  · obtain ⟨h1, h2⟩ := List.append_inj' (show [0, 1, 2] ++ [3] = ini ++ [last] from h) rfl
    exact .inr (.inr (.inr ⟨h1.symm, by simpa using h2.symm⟩))

theorem nan_in (F : Fence) (n : Nat) (h : F.fn 65) (hro : F.round = none) (x : Int) (w : World) :
    CallsIn F n Tryd.prog 65 #[.int .u64 x] w fun e w' => e = .returned (.bool false) ∧ w = w' := by
  refine callsIn_of_wp Tryd.func65 rfl h ?_ hro
  simp only [Tryd.ntmps65, List.size_toArray, List.length_cons, List.length_nil, Nat.reduceAdd, Nat.reduceSub, Array.replicate_succ, Array.replicate_zero, List.push_toArray, List.append_toArray, List.nil_append, List.cons_append]
  gi_wp2
  go_ret
  exact ⟨by simp, rfl⟩

def cmpI (x y : Int) : Int := if x < y then -1 else if y < x then 1 else 0

theorem compare_in (F : Fence) (n : Nat) (h : F.fn 61) (h1 : F.fn 65) (hro : F.round = none) (hn : 1 ≤ n) (x y : Int) (w : World) :
    CallsIn F n Tryd.prog 61 #[.int .u64 x, .int .u64 y] w fun e w' => e = .returned (.int .i64 (cmpI x y)) ∧ w = w' := by
  have hc : (x < y ∧ cmpI x y = -1) ∨ (¬ x < y ∧ y < x ∧ cmpI x y = 1) ∨ (¬ x < y ∧ ¬ y < x ∧ cmpI x y = 0) := by
    unfold cmpI; split
    · exact .inl ⟨by assumption, rfl⟩
    · split
      · exact .inr (.inl ⟨by assumption, by assumption, rfl⟩)
      · exact .inr (.inr ⟨by assumption, by assumption, rfl⟩)
  rcases hc with ⟨h2, h3⟩ | ⟨h2, h3, h4⟩ | ⟨h2, h3, h4⟩
  all_goals
    first | rw [h4] | rw [h3]
    refine callsIn_of_wp Tryd.func61 rfl h ?_ hro
    simp only [Tryd.ntmps61, List.size_toArray, List.length_cons, List.length_nil, Nat.reduceAdd, Nat.reduceSub, Array.replicate_succ, Array.replicate_zero, List.push_toArray, List.append_toArray, List.nil_append, List.cons_append]
    gi_wp2_with (gi_at_call 65; refine (nan_in F (n - 1) h1 hro _ _).mono ?_; rintro e w' ⟨rfl, rfl⟩)
    go_ret
    exact ⟨rfl, rfl⟩

theorem compare_c (F : Fence) (n : Nat) (h : F.fn 61) (h1 : F.fn 65) (hro : F.round = none) (hn : 1 ≤ n) (x y c : Int) (hc : cmpI x y = c) (w : World) :
    CallsIn F n Tryd.prog 61 #[.int .u64 x, .int .u64 y] w fun e w' => e = .returned (.int .i64 c) ∧ w = w' := by
  subst hc; exact compare_in F n h h1 hro hn x y w

set_option maxRecDepth 100000 in
set_option maxHeartbeats 2000000 in
theorem back_in (F : Fence) (n : Nat) (h : F.fn 39) (hro : F.round = none) (hn : 1 ≤ n) (l Bs n₀ b : Nat) (z : Nat → Int) (hb : b < n₀) (hBs0 : Bs < n₀) (J Jx : List (Fin 4) → World → Prop)
    (hY : ∀ (pre : List (Fin 4)) (x : Fin 4) W, J pre W → pre.length < 4 → YieldAt F (n - 1) Tryd.prog l #[.int .i64 (bidx x), .int .u64 (z x)] W fun e W' =>
      (e = .returned (.bool true) ∧ J (pre ++ [x]) W' ∧ Below n₀ W W') ∨ (e = .returned (.bool false) ∧ Jx (pre ++ [x]) W'))
    (W : World) (hBs : W.cell? ⟨Bs, 0, none⟩ = some (.slice (some ⟨b, 0, none⟩) 4 4))
    (hc0 : W.cell? ⟨b, 0, none⟩ = some (.int .u64 (z 3))) (hc1 : W.cell? ⟨b, 1, none⟩ = some (.int .u64 (z 2))) (hc2 : W.cell? ⟨b, 2, none⟩ = some (.int .u64 (z 1))) (hc3 : W.cell? ⟨b, 3, none⟩ = some (.int .u64 (z 0))) (h0 : J [] W) :
    CallsIn F n Tryd.prog 39 #[.func (.yield l) #[] #[], .pointer (some ⟨Bs, 0, none⟩)] W fun e W' => (∃ v, e = .returned v) ∧
      ((∃ ys, ys = fins 4 ∧ J ys W') ∨ (∃ pre, (∃ k, k ≤ 4 ∧ pre = fins k) ∧ Jx pre W')) := by
  refine callsIn_of_wp Tryd.func39 rfl h ?_ hro
  simp only [Tryd.ntmps39, List.size_toArray, List.length_cons, List.length_nil, Nat.reduceAdd, Nat.reduceSub, Array.replicate_succ, Array.replicate_zero, List.push_toArray, List.append_toArray, List.nil_append, List.cons_append]
  gi_wp2
  gi_loopw [3] (fun i wr => ∃ k : Nat, k ≤ 4 ∧ i = .int .i64 (bidx k) ∧ J (fins k) wr ∧ Below n₀ W wr)
    (fun i _ => (intOf i + 1).toNat)
  case atStart => exact ⟨0, Nat.zero_le _, rfl, h0, Below.refl _ _⟩
  case round =>
    obtain ⟨k, hk, rfl, hJs, hnx⟩ := hrel
    have cBs := (hnx.cell (p := ⟨Bs, 0, none⟩) hBs0).trans hBs
    have c0 := (hnx.cell (p := ⟨b, 0, none⟩) hb).trans hc0
    have c1 := (hnx.cell (p := ⟨b, 1, none⟩) hb).trans hc1
    have c2 := (hnx.cell (p := ⟨b, 2, none⟩) hb).trans hc2
    have c3 := (hnx.cell (p := ⟨b, 3, none⟩) hb).trans hc3
    clear hc0 hc1 hc2 hc3 hBs
    have hk5 : k = 0 ∨ k = 1 ∨ k = 2 ∨ k = 3 ∨ k = 4 := by omega
    rcases hk5 with rfl | rfl | rfl | rfl | rfl
    · obtain ⟨fn, tmps, assign, body, hy, hR⟩ := hY _ 0 wr hJs (by decide)
      simp only [show ((0 : Fin 4) : Nat) = 0 from rfl, bidx] at hy ⊢
      gi_wp2
      refine hR.mono ?_
      rintro e W3 (⟨rfl, hJ3, hk3⟩ | ⟨rfl, hJx3⟩)
      · gi_wp2
        go_roundw
        case rel => exact ⟨1, by omega, rfl, hJ3, hnx.trans hk3⟩
        case measure => simp [intOf]
      · gi_wp2
        refine bodyPost_ret (results_none rfl _ _ _) rfl ?_
        exact ⟨⟨_, rfl⟩, .inr ⟨_, ⟨1, by omega, rfl⟩, hJx3⟩⟩
    · obtain ⟨fn, tmps, assign, body, hy, hR⟩ := hY _ 1 wr hJs (by decide)
      simp only [show ((1 : Fin 4) : Nat) = 1 from rfl, bidx] at hy ⊢
      gi_wp2
      refine hR.mono ?_
      rintro e W3 (⟨rfl, hJ3, hk3⟩ | ⟨rfl, hJx3⟩)
      · gi_wp2
        go_roundw
        case rel => exact ⟨2, by omega, rfl, hJ3, hnx.trans hk3⟩
        case measure => simp [intOf]
      · gi_wp2
        refine bodyPost_ret (results_none rfl _ _ _) rfl ?_
        exact ⟨⟨_, rfl⟩, .inr ⟨_, ⟨2, by omega, rfl⟩, hJx3⟩⟩
    · obtain ⟨fn, tmps, assign, body, hy, hR⟩ := hY _ 2 wr hJs (by decide)
      simp only [show ((2 : Fin 4) : Nat) = 2 from rfl, bidx] at hy ⊢
      gi_wp2
      refine hR.mono ?_
      rintro e W3 (⟨rfl, hJ3, hk3⟩ | ⟨rfl, hJx3⟩)
      · gi_wp2
        go_roundw
        case rel => exact ⟨3, by omega, rfl, hJ3, hnx.trans hk3⟩
        case measure => simp [intOf]
      · gi_wp2
        refine bodyPost_ret (results_none rfl _ _ _) rfl ?_
        exact ⟨⟨_, rfl⟩, .inr ⟨_, ⟨3, by omega, rfl⟩, hJx3⟩⟩
    · obtain ⟨fn, tmps, assign, body, hy, hR⟩ := hY _ 3 wr hJs (by decide)
      simp only [show ((3 : Fin 4) : Nat) = 3 from rfl, bidx] at hy ⊢
      gi_wp2
      refine hR.mono ?_
      rintro e W3 (⟨rfl, hJ3, hk3⟩ | ⟨rfl, hJx3⟩)
      · gi_wp2
        go_roundw
        case rel => exact ⟨4, by omega, rfl, hJ3, hnx.trans hk3⟩
        case measure => simp [intOf]
      · gi_wp2
        refine bodyPost_ret (results_none rfl _ _ _) rfl ?_
        exact ⟨⟨_, rfl⟩, .inr ⟨_, ⟨4, by omega, rfl⟩, hJx3⟩⟩
    · simp only [bidx]
      gi_wp2
      go_end0
      exact ⟨⟨_, rfl⟩, .inl ⟨_, rfl, hJs⟩⟩

theorem back_stops (F : Fence) (n : Nat) (h : F.fn 39) (hro : F.round = none) (hn : 1 ≤ n) (Bs n₀ b : Nat) (z : Nat → Int) (w : World) (hn₀ : n₀ ≤ w.heap.size) (hb : b < n₀) (hBs0 : Bs < n₀)
    (hBs : w.cell? ⟨Bs, 0, none⟩ = some (.slice (some ⟨b, 0, none⟩) 4 4))
    (hc0 : w.cell? ⟨b, 0, none⟩ = some (.int .u64 (z 3))) (hc1 : w.cell? ⟨b, 1, none⟩ = some (.int .u64 (z 2))) (hc2 : w.cell? ⟨b, 2, none⟩ = some (.int .u64 (z 1))) (hc3 : w.cell? ⟨b, 3, none⟩ = some (.int .u64 (z 0))) :
    SeqStopsK F n Tryd.prog 39 #[.pointer (some ⟨Bs, 0, none⟩)] (fun x : Fin 4 => #[Value.int .i64 (bidx x), Value.int .u64 (z x)]) (Below n₀) (fun ys => ys = fins 4)
      (fun pre => ∃ k, k ≤ 4 ∧ pre = fins k) 4 w := fun l J Jx W hW _ _ hY h0 => by
  have g := fun o => (hW.mono hn₀).cell (p := ⟨b, o, none⟩) hb
  exact back_in F n h hro hn l Bs n₀ b z hb hBs0 J Jx hY W (((hW.mono hn₀).cell (p := ⟨Bs, 0, none⟩) hBs0).trans hBs) ((g 0).trans hc0) ((g 1).trans hc1) ((g 2).trans hc2) ((g 3).trans hc3) h0

theorem backward_in (F : Fence) (n : Nat) (h : F.fn 25) (hro : F.round = none) (a : Option Addr) (len cap : Nat) (w : World) :
    CallsIn F n Tryd.prog 25 #[.slice a len cap] w fun e w' => e = .returned (.func (.func 39) #[] #[.pointer (some ⟨w.heap.size, 0, none⟩)]) ∧ w' = w.alloc (.cells #[.slice a len cap] 44) := by
  refine callsIn_of_wp Tryd.func25 rfl h ?_ hro
  simp only [Tryd.ntmps25, List.size_toArray, List.length_cons, List.length_nil, Nat.reduceAdd, Nat.reduceSub, Array.replicate_succ, Array.replicate_zero, List.push_toArray, List.append_toArray, List.nil_append, List.cons_append]
  gi_wp2
  go_ret
  exact ⟨rfl, rfl⟩

theorem alloc_get (w : World) (o : Obj) (i : Nat) : (w.alloc o).heap[i]? = if i = w.heap.size then some o else w.heap[i]? := by
  simp only [World.alloc, Array.getElem?_push]

theorem heap4 (w : World) (p q r s : Obj) : let W := (((w.alloc p).alloc q).alloc r).alloc s
    W.heap[w.heap.size]? = some p ∧ W.heap[w.heap.size + 1]? = some q ∧ W.heap[w.heap.size + 2]? = some r ∧ W.heap[w.heap.size + 3]? = some s := by
  intro W
  refine ⟨?_, ?_, ?_, ?_⟩
  · rw [alloc_get, if_neg (by simp only [World.size_alloc]; omega), alloc_get, if_neg (by simp only [World.size_alloc]; omega), alloc_get, if_neg (by simp only [World.size_alloc]; omega), alloc_get, if_pos rfl]
  · rw [alloc_get, if_neg (by simp only [World.size_alloc]; omega), alloc_get, if_neg (by simp only [World.size_alloc]; omega), alloc_get, if_pos (by simp only [World.size_alloc])]
  · rw [alloc_get, if_neg (by simp only [World.size_alloc]; omega), alloc_get, if_pos (by simp only [World.size_alloc])]
  · rw [alloc_get, if_pos (by simp only [World.size_alloc])]

/-- the first difference, from the highest part on -/
def cmp4 (x y : Nat → Int) : Nat → Int
  | 0 => 0
  | k + 1 => if cmp4 x y k = 0 then cmpI (x k) (y k) else cmp4 x y k

set_option maxRecDepth 100000 in
set_option maxHeartbeats 4000000 in
theorem cmp_in (F : Fence) (n : Nat) (h71 : F.fn 52) (h98 : F.fn 25) (h110 : F.fn 39) (h99 : F.fn 61) (h111 : F.fn 65) (hro : F.round = none) (hn : 5 ≤ n) (x y : Nat → Int) (w : World) :
    CallsIn F n Tryd.prog 52 #[.agg #[.int .u64 (x 3), .int .u64 (x 2), .int .u64 (x 1), .int .u64 (x 0)], .agg #[.int .u64 (y 3), .int .u64 (y 2), .int .u64 (y 1), .int .u64 (y 0)]] w fun e W' =>
      e = .returned (.int .i64 (cmp4 x y 4)) ∧ Below w.heap.size w W' := by
  have h1 : 1 ≤ n := by omega
  refine callsIn_of_wp_marks Tryd.func52 rfl h71 ?_ hro
  simp only [Tryd.ntmps52, List.size_toArray, List.length_cons, List.length_nil, Nat.reduceAdd, Nat.reduceSub, Array.replicate_succ, Array.replicate_zero, List.push_toArray, List.append_toArray, List.nil_append, List.cons_append]
  gi_wp2_with (gi_at_call 25; refine (backward_in F (n - 1) h98 hro _ _ _ _).mono ?_; rintro e w' ⟨rfl, rfl⟩)
  obtain ⟨W4, hW4⟩ : ∃ W4, (((w.alloc (.cells #[.int .u64 (x 3), .int .u64 (x 2), .int .u64 (x 1), .int .u64 (x 0)] 24)).alloc (.cells #[.int .u64 (y 3), .int .u64 (y 2), .int .u64 (y 1), .int .u64 (y 0)] 24)).alloc (.cells #[.int .i64 0] 3)).alloc
      (.cells #[.slice (some ⟨w.heap.size, 0, none⟩) 4 4] 44) = W4 := ⟨_, rfl⟩
  have hB0 : Below w.heap.size w W4 := by
    rw [← hW4]
    exact ((((Below.refl _ w).alloc (Nat.le_refl _) _).alloc (by simp) _).alloc (by simp <;> omega) _).alloc (by simp <;> omega) _
  have hsz : W4.heap.size = w.heap.size + 4 := by rw [← hW4]; simp
  have hh := heap4 w (.cells #[.int .u64 (x 3), .int .u64 (x 2), .int .u64 (x 1), .int .u64 (x 0)] 24) (.cells #[.int .u64 (y 3), .int .u64 (y 2), .int .u64 (y 1), .int .u64 (y 0)] 24) (.cells #[.int .i64 0] 3) (.cells #[.slice (some ⟨w.heap.size, 0, none⟩) 4 4] 44)
  simp only [hW4] at hh
  obtain ⟨hA, hY, hR, hS⟩ := hh
  have cA := fun j => cell_of_row W4 _ j _ _ _ hA
  have cY := fun j => cell_of_row W4 _ j _ _ _ hY
  have cR := fun j => cell_of_row W4 _ j _ _ _ hR
  have cS := fun j => cell_of_row W4 _ j _ _ _ hS
  have zR := frozen_of_row W4 _ 0 _ _ hR
  rw [hW4]
  refine wpIn_rangeFunc_ownG hro h1 (gf := 39) (lb := #[.pointer (some ⟨w.heap.size + 3, 0, none⟩)]) rfl h110 (enters_of Tryd.func39 (by kernel_rfl) rfl)
    (back_stops F (n - 1) h110 hro (by omega) (w.heap.size + 3) (w.heap.size + 4) w.heap.size x _ (by omega) (by omega) (by omega) (cS 0) (cA 0) (cA 1) (cA 2) (cA 3)) belowK_t (belowK_b (by omega)) (Below.refl _ _) (fun _ => rfl)
    (fun (pre : List (Fin 4)) W => ((∀ j ∈ pre, cmpI (x j) (y j) = 0) ∧ (W.cell? ⟨w.heap.size + 2, 0, none⟩ = some (.int .i64 0) ∧ W.frozen? ⟨w.heap.size + 2, 0, none⟩ = false) ∧
      W.cell? ⟨w.heap.size + 1, 0, none⟩ = some (.int .u64 (y 3)) ∧ W.cell? ⟨w.heap.size + 1, 1, none⟩ = some (.int .u64 (y 2)) ∧ W.cell? ⟨w.heap.size + 1, 2, none⟩ = some (.int .u64 (y 1)) ∧ W.cell? ⟨w.heap.size + 1, 3, none⟩ = some (.int .u64 (y 0))) ∧ Below w.heap.size w W)
    (fun c (pre : List (Fin 4)) W => (c = .ret ∧ ∃ (ini : List (Fin 4)) (last : Fin 4), pre = ini ++ [last] ∧ (∀ j ∈ ini, cmpI (x j) (y j) = 0) ∧ cmpI (x last) (y last) ≠ 0 ∧ W.cell? ⟨w.heap.size + 2, 0, none⟩ = some (.int .i64 (cmpI (x last) (y last)))) ∧ Below w.heap.size w W)
    (OwnFrom.and (Own.from (fun s A B row hs hg hr => ⟨hs.1, ⟨cell_kept hs.2.1.1 hg hr, (frozen_kept hs.2.1.1 hg hr).trans hs.2.1.2⟩, cell_kept hs.2.2.1 hg hr, cell_kept hs.2.2.2.1 hg hr, cell_kept hs.2.2.2.2.1 hg hr, cell_kept hs.2.2.2.2.2 hg hr⟩) _) (ownFrom_below (Nat.le_refl _) (by omega)))
    (fun c => OwnFrom.and (Own.from (fun s A B row hs hg hr => by obtain ⟨hc, ini, last, e1, e2, e3, e4⟩ := hs; exact ⟨hc, ini, last, e1, e2, e3, cell_kept e4 hg hr⟩) _) (ownFrom_below (Nat.le_refl _) (by omega)))
    ⟨⟨by simp, ⟨cR 0, zR⟩, cY 0, cY 1, cY 2, cY 3⟩, hB0⟩
    (fun k => { tmps := #[.agg #[.int .u64 (x 3), .int .u64 (x 2), .int .u64 (x 1), .int .u64 (x 0)], .agg #[.int .u64 (y 3), .int .u64 (y 2), .int .u64 (y 1), .int .u64 (y 0)], .pointer (some ⟨w.heap.size, 0, none⟩), .pointer (some ⟨w.heap.size + 1, 0, none⟩), .pointer (some ⟨w.heap.size + 2, 0, none⟩),
      .int .i64 (bidx k), .int .u64 (x k), undef, .slice (some ⟨w.heap.size, 0, none⟩) 4 4, .func (.func 39) #[] #[.pointer (some ⟨w.heap.size + 3, 0, none⟩)], .int .i64 (bidx k), .int .u64 (x k), undef, undef, undef, undef, undef, undef, undef, undef], defers := [] }) ?assign ?body ?done ?stop
  case assign =>
    intro l x W K hK
    gi_wp2
    exact hK
  case body =>
    have h12 : 1 ≤ n - 1 - 1 := by omega
    rintro l pre k W ⟨⟨hp, ⟨hcr, hfr⟩, y0, y1, y2, y3⟩, hB⟩ _
    have hk : k = 0 ∨ k = 1 ∨ k = 2 ∨ k = 3 := by revert k; decide
    rcases hk with rfl | rfl | rfl | rfl
    · obtain ⟨c, hcc⟩ : ∃ c, cmpI (x 0) (y 0) = c := ⟨_, rfl⟩
      by_cases h0 : c = 0
      · subst h0
        have Hcc := Lib.hid hcc
        clear hcc
        simp only [show ((0 : Fin 4) : Nat) = 0 from rfl, bidx]
        gi_wp2_with (gi_at_call 61; refine (CallsIn.inRound l (compare_c F _ h99 h111 hro (by omega) _ _ _ Hcc.out _)).mono ?_; rintro e w' ⟨rfl, rfl⟩)
        exact ⟨KeepsFrom.refl _ _, Below.refl _ _, ⟨fun j hj => (List.mem_append.1 hj).elim (hp j) (fun e => by simp at e; subst e; exact Hcc.out), ⟨hcr, hfr⟩, y0, y1, y2, y3⟩, hB⟩
      · have hne : (c != 0) = true := by rw [bne_iff_ne]; exact h0
        have Hcc := Lib.hid hcc
        have H0 := Lib.hid h0
        clear hcc h0
        simp only [show ((0 : Fin 4) : Nat) = 0 from rfl, bidx]
        gi_wp2_with (gi_at_call 61; refine (CallsIn.inRound l (compare_c F _ h99 h111 hro (by omega) _ _ _ Hcc.out _)).mono ?_; rintro e w' ⟨rfl, rfl⟩)
        refine ⟨(KeepsOthers.setCell _ _ _).from _, ⟨rfl, pre, 0, rfl, hp, by rw [show ((0 : Fin 4) : Nat) = 0 from rfl, Hcc.out]; exact H0.out, ?_⟩, hB.setCell (p := ⟨w.heap.size + 2, 0, none⟩) (by simp) _⟩
        rw [show ((0 : Fin 4) : Nat) = 0 from rfl, Hcc.out]
        exact World.cell?_setCell_same' _ _ _ (by rw [hcr]; rfl)
    · obtain ⟨c, hcc⟩ : ∃ c, cmpI (x 1) (y 1) = c := ⟨_, rfl⟩
      by_cases h0 : c = 0
      · subst h0
        have Hcc := Lib.hid hcc
        clear hcc
        simp only [show ((1 : Fin 4) : Nat) = 1 from rfl, bidx]
        gi_wp2_with (gi_at_call 61; refine (CallsIn.inRound l (compare_c F _ h99 h111 hro (by omega) _ _ _ Hcc.out _)).mono ?_; rintro e w' ⟨rfl, rfl⟩)
        exact ⟨KeepsFrom.refl _ _, Below.refl _ _, ⟨fun j hj => (List.mem_append.1 hj).elim (hp j) (fun e => by simp at e; subst e; exact Hcc.out), ⟨hcr, hfr⟩, y0, y1, y2, y3⟩, hB⟩
      · have hne : (c != 0) = true := by rw [bne_iff_ne]; exact h0
        have Hcc := Lib.hid hcc
        have H0 := Lib.hid h0
        clear hcc h0
        simp only [show ((1 : Fin 4) : Nat) = 1 from rfl, bidx]
        gi_wp2_with (gi_at_call 61; refine (CallsIn.inRound l (compare_c F _ h99 h111 hro (by omega) _ _ _ Hcc.out _)).mono ?_; rintro e w' ⟨rfl, rfl⟩)
        refine ⟨(KeepsOthers.setCell _ _ _).from _, ⟨rfl, pre, 1, rfl, hp, by rw [show ((1 : Fin 4) : Nat) = 1 from rfl, Hcc.out]; exact H0.out, ?_⟩, hB.setCell (p := ⟨w.heap.size + 2, 0, none⟩) (by simp) _⟩
        rw [show ((1 : Fin 4) : Nat) = 1 from rfl, Hcc.out]
        exact World.cell?_setCell_same' _ _ _ (by rw [hcr]; rfl)
    · obtain ⟨c, hcc⟩ : ∃ c, cmpI (x 2) (y 2) = c := ⟨_, rfl⟩
      by_cases h0 : c = 0
      · subst h0
        have Hcc := Lib.hid hcc
        clear hcc
        simp only [show ((2 : Fin 4) : Nat) = 2 from rfl, bidx]
        gi_wp2_with (gi_at_call 61; refine (CallsIn.inRound l (compare_c F _ h99 h111 hro (by omega) _ _ _ Hcc.out _)).mono ?_; rintro e w' ⟨rfl, rfl⟩)
        exact ⟨KeepsFrom.refl _ _, Below.refl _ _, ⟨fun j hj => (List.mem_append.1 hj).elim (hp j) (fun e => by simp at e; subst e; exact Hcc.out), ⟨hcr, hfr⟩, y0, y1, y2, y3⟩, hB⟩
      · have hne : (c != 0) = true := by rw [bne_iff_ne]; exact h0
        have Hcc := Lib.hid hcc
        have H0 := Lib.hid h0
        clear hcc h0
        simp only [show ((2 : Fin 4) : Nat) = 2 from rfl, bidx]
        gi_wp2_with (gi_at_call 61; refine (CallsIn.inRound l (compare_c F _ h99 h111 hro (by omega) _ _ _ Hcc.out _)).mono ?_; rintro e w' ⟨rfl, rfl⟩)
        refine ⟨(KeepsOthers.setCell _ _ _).from _, ⟨rfl, pre, 2, rfl, hp, by rw [show ((2 : Fin 4) : Nat) = 2 from rfl, Hcc.out]; exact H0.out, ?_⟩, hB.setCell (p := ⟨w.heap.size + 2, 0, none⟩) (by simp) _⟩
        rw [show ((2 : Fin 4) : Nat) = 2 from rfl, Hcc.out]
        exact World.cell?_setCell_same' _ _ _ (by rw [hcr]; rfl)
    · obtain ⟨c, hcc⟩ : ∃ c, cmpI (x 3) (y 3) = c := ⟨_, rfl⟩
      by_cases h0 : c = 0
      · subst h0
        have Hcc := Lib.hid hcc
        clear hcc
        simp only [show ((3 : Fin 4) : Nat) = 3 from rfl, bidx]
        gi_wp2_with (gi_at_call 61; refine (CallsIn.inRound l (compare_c F _ h99 h111 hro (by omega) _ _ _ Hcc.out _)).mono ?_; rintro e w' ⟨rfl, rfl⟩)
        exact ⟨KeepsFrom.refl _ _, Below.refl _ _, ⟨fun j hj => (List.mem_append.1 hj).elim (hp j) (fun e => by simp at e; subst e; exact Hcc.out), ⟨hcr, hfr⟩, y0, y1, y2, y3⟩, hB⟩
      · have hne : (c != 0) = true := by rw [bne_iff_ne]; exact h0
        have Hcc := Lib.hid hcc
        have H0 := Lib.hid h0
        clear hcc h0
        simp only [show ((3 : Fin 4) : Nat) = 3 from rfl, bidx]
        gi_wp2_with (gi_at_call 61; refine (CallsIn.inRound l (compare_c F _ h99 h111 hro (by omega) _ _ _ Hcc.out _)).mono ?_; rintro e w' ⟨rfl, rfl⟩)
        refine ⟨(KeepsOthers.setCell _ _ _).from _, ⟨rfl, pre, 3, rfl, hp, by rw [show ((3 : Fin 4) : Nat) = 3 from rfl, Hcc.out]; exact H0.out, ?_⟩, hB.setCell (p := ⟨w.heap.size + 2, 0, none⟩) (by simp) _⟩
        rw [show ((3 : Fin 4) : Nat) = 3 from rfl, Hcc.out]
        exact World.cell?_setCell_same' _ _ _ (by rw [hcr]; rfl)
  case done =>
    rintro D ys W hD rfl ⟨⟨hne, ⟨hcr, hfr⟩, _⟩, hB⟩ hK
    gi_wp2
    have hK' := (KeepsOthers.setCell W ⟨w.heap.size + 2, 0, none⟩ (.int .i64 0)).same D _ hK rfl
    refine ⟨by simp, .inl ⟨_, _, rfl, run_takeDeferred hK', ?_⟩⟩
    have hc5 := cell_kept (World.cell?_setCell_same' W ⟨w.heap.size + 2, 0, none⟩ (.int .i64 0) (by rw [hcr]; rfl)) (grownBy_putObj' _ D (.deferred none)) (fun r e => by cases e; exact ⟨_, hK', rfl⟩)
    have hz : cmp4 x y 4 = 0 := by
      have e0 := hne 0 (by decide)
      have e1 := hne 1 (by decide)
      have e2 := hne 2 (by decide)
      have e3 := hne 3 (by decide)
      simp only [show ((0 : Fin 4) : Nat) = 0 from rfl, show ((1 : Fin 4) : Nat) = 1 from rfl, show ((2 : Fin 4) : Nat) = 2 from rfl, show ((3 : Fin 4) : Nat) = 3 from rfl] at e0 e1 e2 e3
      simp [cmp4, e0, e1, e2, e3]
    rw [hz]
    refine ⟨.int .i64 0, ?_, rfl, (hB.setCell (p := ⟨w.heap.size + 2, 0, none⟩) (by simp) _).trans (belowK_b (w := w) (Nat.le_refl _) _ D _ _ (by omega) hK' rfl rfl)⟩
    simp [results, Tryd.results52, go_sem, hc5]
  case stop =>
    rintro D c pre W hD ⟨k, hk, rfl⟩ ⟨⟨rfl, ini, last, e1, e2, e3, hcr⟩, hB⟩ hK
    gi_wp2
    refine ⟨by simp, .inl ⟨_, _, rfl, run_takeDeferred hK, ?_⟩⟩
    have hc5 := cell_kept hcr (grownBy_putObj' _ D (.deferred none)) (fun r e => by cases e; exact ⟨_, hK, rfl⟩)
    have hz : cmp4 x y 4 = cmpI (x last) (y last) := by
      rcases fins_last hk e1 with ⟨rfl, rfl⟩ | ⟨rfl, rfl⟩ | ⟨rfl, rfl⟩ | ⟨rfl, rfl⟩
      · simp only [show ((0 : Fin 4) : Nat) = 0 from rfl] at e3 ⊢
        simp [cmp4, e3]
      · have g0 := e2 0 (by decide)
        simp only [show ((0 : Fin 4) : Nat) = 0 from rfl, show ((1 : Fin 4) : Nat) = 1 from rfl] at e3 g0 ⊢
        simp [cmp4, e3, g0]
      · have g0 := e2 0 (by decide)
        have g1 := e2 1 (by decide)
        simp only [show ((0 : Fin 4) : Nat) = 0 from rfl, show ((1 : Fin 4) : Nat) = 1 from rfl, show ((2 : Fin 4) : Nat) = 2 from rfl] at e3 g0 g1 ⊢
        simp [cmp4, e3, g0, g1]
      · have g0 := e2 0 (by decide)
        have g1 := e2 1 (by decide)
        have g2 := e2 2 (by decide)
        simp only [show ((0 : Fin 4) : Nat) = 0 from rfl, show ((1 : Fin 4) : Nat) = 1 from rfl, show ((2 : Fin 4) : Nat) = 2 from rfl, show ((3 : Fin 4) : Nat) = 3 from rfl] at e3 g0 g1 g2 ⊢
        simp [cmp4, g0, g1, g2]
    rw [hz]
    refine ⟨.int .i64 (cmpI (x last) (y last)), ?_, rfl, hB.trans (belowK_b (w := w) (Nat.le_refl _) W D _ _ (by omega) hK rfl rfl)⟩
    simp [results, Tryd.results52, go_sem, hc5]

end Go.Proofs.YtmjdmhelmgcanaaDoor

/- num.Cmp in natural numbers. -/
namespace Go.Proofs.YtmjdmhelmgcanaaDoor
open Go.RowKit Go.Shelf

def cmpN (x y : Nat) : Int := if x < y then -1 else if y < x then 1 else 0

theorem cmpI_nat (a b : Nat) : cmpI (a : Int) (b : Int) = cmpN a b := by
  unfold cmpI cmpN
  simp only [Int.ofNat_lt]

theorem cmpN_lt {a b : Nat} (h : a < b) : cmpN a b = -1 := by simp [cmpN, h]
theorem cmpN_gt {a b : Nat} (h : b < a) : cmpN a b = 1 := by have : ¬ a < b := by omega
                                                             simp [cmpN, h, this]
theorem cmpN_eq (a : Nat) : cmpN a a = 0 := by simp [cmpN]

theorem cmp_calls (x y : Nat) (hx : x < TOP) (hy : y < TOP) (w : World) :
    Calls Tryd.prog 52 #[V x, V y] w fun e w' => Below w.heap.size w w' ∧ e = .returned (.int .i64 (cmpN x y)) := by
  obtain ⟨a0, a1, a2, a3, hv, ha0, ha1, ha2, ha3, hxe⟩ := V_open hx
  obtain ⟨b0, b1, b2, b3, hu, hb0, hb1, hb2, hb3, hye⟩ := V_open hy
  have hc : cmp4 (fun k => match k with | 0 => (a3 : Int) | 1 => a2 | 2 => a1 | _ => a0) (fun k => match k with | 0 => (b3 : Int) | 1 => b2 | 2 => b1 | _ => b0) 4 = cmpN x y := by
    simp only [cmp4, cmpI_nat, if_true]
    rw [hxe, hye]
    unfold mk4
    rcases Nat.lt_trichotomy a3 b3 with h3 | h3 | h3
    · rw [cmpN_lt h3]; simp; rw [cmpN_lt (by omega)]
    · subst h3
      rw [cmpN_eq]
      simp only [if_true]
      rcases Nat.lt_trichotomy a2 b2 with h2 | h2 | h2
      · rw [cmpN_lt h2]; simp; rw [cmpN_lt (by omega)]
      · subst h2
        rw [cmpN_eq]
        simp only [if_true]
        rcases Nat.lt_trichotomy a1 b1 with h1 | h1 | h1
        · rw [cmpN_lt h1]; simp; rw [cmpN_lt (by omega)]
        · subst h1
          rw [cmpN_eq]
          simp only [if_true]
          rcases Nat.lt_trichotomy a0 b0 with h0 | h0 | h0
          · rw [cmpN_lt h0, cmpN_lt (by omega)]
          · subst h0
            rw [cmpN_eq, cmpN_eq]
          · rw [cmpN_gt h0, cmpN_gt (by omega)]
        · rw [cmpN_gt h1]; simp; rw [cmpN_gt (by omega)]
      · rw [cmpN_gt h2]; simp; rw [cmpN_gt (by omega)]
    · rw [cmpN_gt h3]; simp; rw [cmpN_gt (by omega)]
  rw [hv, hu]
  have := (callsIn_wide (n := 9)).1 (cmp_in _ 9 trivial trivial trivial trivial trivial rfl (by omega) (fun k => match k with | 0 => (a3 : Int) | 1 => a2 | 2 => a1 | _ => a0) (fun k => match k with | 0 => (b3 : Int) | 1 => b2 | 2 => b1 | _ => b0) w)
  rw [hc] at this
  exact this.mono fun e w' h => ⟨h.2, h.1⟩

end Go.Proofs.YtmjdmhelmgcanaaDoor

/- A loop over an iterator, its rounds counted; slices.Backward over a row that the rounds write. -/
namespace Go.Proofs.YtmjdmhelmgcanaaDoor
open Go.RowKit Go.Shelf

attribute [local go_sem] Oper.semAt_some

/-- how a round ends -/
def roundEnd (B : Nat) (I : World → Prop) (W : World) : Exit → Act → World → Prop
  | .normal, _, W' => KeepsFrom B W W' ∧ I W'
  | _, _, _ => False

/-- the rounds come one behind the other, each with its numbers; what is known of the world goes on from round to round -/
theorem range_n {F : Fence} {n : Nat} {P : Program} {g : Operand} {ps : Array Tmp} {assign body : Code} {Q : Exit → Act → World → Prop} {a : Act} {w : World}
    (hro : F.round = none) (h1 : 1 ≤ n) {gf : Nat} {lb : Array Value} (hg : a.eval g = .func (.func gf) #[] lb) (hFg : F.fn gf) (eg : ∀ args w, (callFunc gf args).run P w = .ok (.enter gf args) w)
    {encs : Nat → Array Value} (hps : ∀ k, (encs k).size = ps.size) {N : Nat} {I : Nat → World → Prop} (hI : OwnFrom w.heap.size I) (h0 : I 0 w)
    (hseq : ∀ (l : Nat) (J : Nat → World → Prop) (W : World), (∀ k V, J k V → I k V) →
      (∀ k V, k < N → J k V → YieldAt F (n - 1 - 1) P l (encs k) V fun e V' => e = .returned (.bool true) ∧ J (k + 1) V') → J 0 W →
      CallsIn F (n - 1) P gf (#[.func (.yield l) #[] #[]] ++ lb) W fun e W' => (∃ v, e = .returned v) ∧ J N W')
    (a1 : Nat → Act)
    (hassign : ∀ (l k : Nat) (W : World) (K : Act → World → Prop), K (a1 k) W →
      assign.wpIn (F.inRound l) (n - 1 - 1) P (Exit.then K (fun _ _ _ => False)) { tmps := (ps.zip (encs k)).foldl (fun t (p, v) => t.setIfInBounds p v) a.tmps, defers := [] } W)
    (hbody : ∀ (l k : Nat) (W : World), k < N → I k W → body.wpIn (F.inRound l) (n - 1 - 1) P (roundEnd w.heap.size (I (k + 1)) W) (a1 k) W)
    (hdone : ∀ (D : Nat) (W : World), w.heap.size ≤ D → I N W → W.heap[D]? = some (.deferred (some [])) → Q .normal { a with defers := { target := .collected D, args := #[] } :: a.defers } W) :
    (Code.rangeFunc g ps assign body).wpIn F n P Q a w := by
  refine wpIn_rangeFunc fun fn hfn => ?_
  rw [hro]
  -- the loop's record lies behind the block for deferred calls
  let L : LoopState → Loop := fun st => { state := st, pending := none, fn := fn, tmps := a.tmps, params := ps, assign := assign, body := body, defers := w.heap.size }
  obtain ⟨V, hV⟩ : ∃ V, (w.alloc (.deferred (some []))).alloc (.loop (L .ready)) = V := ⟨_, rfl⟩
  have hL : V.heap[w.heap.size + 1]? = some (.loop (L .ready)) := by
    have := World.alloc_heap_new (w.alloc (.deferred (some []))) (.loop (L .ready))
    rw [World.size_alloc] at this
    rw [← hV]; exact this
  have hD : V.heap[w.heap.size]? = some (.deferred (some [])) := by
    rw [← hV]; exact (Below.heap_alloc _ _ _ (by simp)).trans (World.alloc_heap_new w _)
  have hI0 : I 0 V := by rw [← hV]; exact hI.alloc _ (hI.alloc _ h0)
  refine ⟨w.heap.size + 1, [{ target := .collected w.heap.size, args := #[] }], V, { target := .fn (.func gf) lb, args := #[.func (.yield (w.heap.size + 1)) #[] #[]] }, V, gf, #[.func (.yield (w.heap.size + 1)) #[] #[]] ++ lb, V, ?_, ?_, ?_, ?_, fun _ => h1, ?_⟩
  · rw [← hV]; exact run_enterLoop_outer _ _ _ _ _
  · simp only [resolve, hg]
    simp [go_sem]
  · intro f' hf'
    simp [Target.leads] at hf'
    subst hf'
    exact hFg
  · simp [invoke, go_sem, eg]
  refine (hseq (w.heap.size + 1) (fun k W => I k W ∧ W.heap[w.heap.size + 1]? = some (.loop (L .ready)) ∧ W.heap[w.heap.size]? = some (.deferred (some []))) V (fun k W h => h.1) ?_ ⟨hI0, hL, hD⟩).mono ?_
  · rintro k W hk ⟨hi, hl, hd⟩
    have hlt : w.heap.size + 1 < W.heap.size := (Array.getElem?_eq_some_iff.1 hl).1
    have hy := run_yield (P := P) (args := encs k) hl (hps k)
    refine ⟨fn, _, assign, body, hy, roundIn_of_wpIn hfn (hassign _ k W _ ⟨_, run_beginRound hl rfl, ?_⟩)⟩
    have hb := hI.putObj (.loop (L .busy)) hi (by omega) hl rfl
    have hl2 : (W.putObj (w.heap.size + 1) (.loop (L .busy))).heap[w.heap.size + 1]? = some (.loop (L .busy)) := World.putObj_heap_same hlt
    have hd2 : (W.putObj (w.heap.size + 1) (.loop (L .busy))).heap[w.heap.size]? = some (.deferred (some [])) := (World.putObj_heap_other (by omega)).trans hd
    refine wpIn_mono (hbody _ k _ hk hb) ?_
    rintro e a3 W3 hp
    cases e with
    | normal =>
      obtain ⟨hk3, hi3⟩ := hp
      have hl3 := hk3.same _ _ (by omega) hl2 rfl
      have hd3 := hk3.same _ _ (Nat.le_refl _) hd2 rfl
      exact ⟨_, _, run_endRound (P := P) none hl3, rfl, hI.putObj _ hi3 (by omega) hl3 rfl, World.putObj_heap_same (Array.getElem?_eq_some_iff.1 hl3).1, (World.putObj_heap_other (by omega)).trans hd3⟩
    | ret => exact hp.elim
    | exit id => exact hp.elim
    | goto t => exact hp.elim
    | panic ch => exact hp.elim
    | outgrown => exact hp.elim
  · rintro e W ⟨⟨v, rfl⟩, hi, hl, hd⟩
    exact ⟨none, _, run_endLoop (P := P) hl (by simp [L]), hdone _ _ (Nat.le_refl _) (hI.putObj _ hi (by omega) hl rfl) ((World.putObj_heap_other (by omega)).trans hd)⟩

set_option maxRecDepth 100000 in
set_option maxHeartbeats 2000000 in
theorem back_n (F : Fence) (n : Nat) (h : F.fn 39) (hro : F.round = none) (hn : 1 ≤ n) (l Bs b : Nat) (z : Nat → Int) (J : Nat → World → Prop)
    (hJ : ∀ k V, J k V → V.cell? ⟨Bs, 0, none⟩ = some (.slice (some ⟨b, 0, none⟩) 4 4) ∧ (k < 4 → V.cell? ⟨b, 3 - k, none⟩ = some (.int .u64 (z k))))
    (hY : ∀ k V, k < 4 → J k V → YieldAt F (n - 1) Tryd.prog l #[.int .i64 (bidx k), .int .u64 (z k)] V fun e V' => e = .returned (.bool true) ∧ J (k + 1) V')
    (W : World) (h0 : J 0 W) :
    CallsIn F n Tryd.prog 39 #[.func (.yield l) #[] #[], .pointer (some ⟨Bs, 0, none⟩)] W fun e W' => (∃ v, e = .returned v) ∧ J 4 W' := by
  have hs0 := (hJ 0 W h0).1
  refine callsIn_of_wp Tryd.func39 rfl h ?_ hro
  simp only [Tryd.ntmps39, List.size_toArray, List.length_cons, List.length_nil, Nat.reduceAdd, Nat.reduceSub, Array.replicate_succ, Array.replicate_zero, List.push_toArray, List.append_toArray, List.nil_append, List.cons_append]
  gi_wp2
  gi_loopw [3] (fun i wr => ∃ k : Nat, k ≤ 4 ∧ i = .int .i64 (bidx k) ∧ J k wr) (fun i _ => (intOf i + 1).toNat)
  case atStart => exact ⟨0, Nat.zero_le _, rfl, h0⟩
  case round =>
    obtain ⟨k, hk, rfl, hJs⟩ := hrel
    obtain ⟨cBs, cb⟩ := hJ k wr hJs
    have hk5 : k = 0 ∨ k = 1 ∨ k = 2 ∨ k = 3 ∨ k = 4 := by omega
    rcases hk5 with rfl | rfl | rfl | rfl | rfl
    · obtain ⟨fn, tmps, assign, body, hy, hR⟩ := hY 0 wr (by decide) hJs
      have c0 := cb (by decide)
      simp only [bidx, Nat.reduceSub] at hy c0 ⊢
      clear hJs cb
      gi_wp2
      refine hR.mono ?_
      rintro e W3 ⟨rfl, hJ3⟩
      gi_wp2
      go_roundw
      case rel => exact ⟨0 + 1, by omega, rfl, hJ3⟩
      case measure => simp [intOf]
    · obtain ⟨fn, tmps, assign, body, hy, hR⟩ := hY 1 wr (by decide) hJs
      have c0 := cb (by decide)
      simp only [bidx, Nat.reduceSub] at hy c0 ⊢
      clear hJs cb
      gi_wp2
      refine hR.mono ?_
      rintro e W3 ⟨rfl, hJ3⟩
      gi_wp2
      go_roundw
      case rel => exact ⟨1 + 1, by omega, rfl, hJ3⟩
      case measure => simp [intOf]
    · obtain ⟨fn, tmps, assign, body, hy, hR⟩ := hY 2 wr (by decide) hJs
      have c0 := cb (by decide)
      simp only [bidx, Nat.reduceSub] at hy c0 ⊢
      clear hJs cb
      gi_wp2
      refine hR.mono ?_
      rintro e W3 ⟨rfl, hJ3⟩
      gi_wp2
      go_roundw
      case rel => exact ⟨2 + 1, by omega, rfl, hJ3⟩
      case measure => simp [intOf]
    · obtain ⟨fn, tmps, assign, body, hy, hR⟩ := hY 3 wr (by decide) hJs
      have c0 := cb (by decide)
      simp only [bidx, Nat.reduceSub] at hy c0 ⊢
      clear hJs cb
      gi_wp2
      refine hR.mono ?_
      rintro e W3 ⟨rfl, hJ3⟩
      gi_wp2
      go_roundw
      case rel => exact ⟨3 + 1, by omega, rfl, hJ3⟩
      case measure => simp [intOf]
    · simp only [bidx]
      gi_wp2
      go_end0
      exact ⟨⟨_, rfl⟩, hJs⟩

end Go.Proofs.YtmjdmhelmgcanaaDoor
