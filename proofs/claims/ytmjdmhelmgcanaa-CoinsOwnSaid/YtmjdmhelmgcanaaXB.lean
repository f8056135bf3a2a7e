/- Joined out of smaller texts: NumA, NumB, NumC, ConA, Lift. -/
import Derived.Test.YtmjdmhelmgcanaaXA
import Derived.Laws.Externs
import Derived.RangeFuncNested
import Derived.RangeFuncBound
import Derived.RangeFuncCalls
import Derived.RangeFuncLeaves
import Derived.Shelf.Abstract
import Derived.Shelf.RegionOpen
import Derived.OwnWalkIn
import Derived.TacticsInMore
import Derived.LoopNIn
import Derived.LoopIn
import Derived.Lib.Hide
import Derived.ProofKit
import Derived.OpenShut
import Derived.ChangeOld
import Derived.Below
import Derived.Laws.IdiomArrays
/- num.Add and num.sub: what they answer, in natural numbers. -/
namespace Go.Proofs.Ytmjdmhelmgcanaa
open Go.RowKit

theorem add64 (x y c : Nat) (hc : c ≤ 1) (w : World) :
    (callFunc 106 #[.int .u64 x, .int .u64 y, .int .u64 c]).run Try.prog w =
      .ok (.value (.tuple #[.int .u64 (((x + y + c) % 18446744073709551616 : Nat) : Int), .int .u64 (((x + y + c) / 18446744073709551616 : Nat) : Int)])) w := by
  rw [run_callFunc_extern Try.func106 (by kernel_rfl) (by kernel_rfl) (by kernel_rfl) (e := add64Entry) (by kernel_rfl), run_add64 x y c (by omega) (by omega) (by omega) (by omega)]
  simp only [Result.andThen]
  congr 5 <;> omega

/-- the model's row for Sub64 -/
def subEntry : Array Value → Sem Value := fun args => do
  let (x, y, b) ← Extern.MathBitsCarry.three "Sub64" args
  pure (Extern.MathBitsCarry.pair ((x + Extern.MathBitsCarry.m64 - y - b) % Extern.MathBitsCarry.m64) (if x < y + b then 1 else 0))

theorem run_subEntry (x y b : Nat) (hb : b ≤ 1) (w : World) :
    (subEntry #[.int .u64 x, .int .u64 y, .int .u64 b]).run Try.prog w =
      .ok (.tuple #[.int .u64 (((x + 18446744073709551616 - y - b) % 18446744073709551616 : Nat) : Int), .int .u64 ((if x < y + b then 1 else 0 : Nat) : Int)]) w := by
  have h : b = 0 ∨ b = 1 := by omega
  rcases h with rfl | rfl <;> rfl

theorem sub64 (x y b : Nat) (hb : b ≤ 1) (w : World) :
    (callFunc 117 #[.int .u64 x, .int .u64 y, .int .u64 b]).run Try.prog w =
      .ok (.value (.tuple #[.int .u64 (((x + 18446744073709551616 - y - b) % 18446744073709551616 : Nat) : Int), .int .u64 ((if x < y + b then 1 else 0 : Nat) : Int)])) w := by
  rw [run_callFunc_extern Try.func117 (by kernel_rfl) (by kernel_rfl) (by kernel_rfl) (e := subEntry) (by kernel_rfl), run_subEntry x y b hb]
  rfl

/-- one step of a sum -/
theorem add64_ex {x y c : Nat} (hx : x < 18446744073709551616) (hy : y < 18446744073709551616) (hc : c ≤ 1) :
    ∃ s k : Nat, (∀ w, (callFunc 106 #[.int .u64 x, .int .u64 y, .int .u64 c]).run Try.prog w = .ok (.value (.tuple #[.int .u64 s, .int .u64 k])) w) ∧
      s < 18446744073709551616 ∧ k ≤ 1 ∧ x + y + c = s + 18446744073709551616 * k :=
  ⟨_, _, add64 x y c hc, Nat.mod_lt _ (by omega), by omega, by omega⟩

theorem sub64_ex {x y c : Nat} (hx : x < 18446744073709551616) (hy : y < 18446744073709551616) (hc : c ≤ 1) :
    ∃ s k : Nat, (∀ w, (callFunc 117 #[.int .u64 x, .int .u64 y, .int .u64 c]).run Try.prog w = .ok (.value (.tuple #[.int .u64 s, .int .u64 k])) w) ∧
      s < 18446744073709551616 ∧ k ≤ 1 ∧ x + 18446744073709551616 * k = s + y + c := by
  refine ⟨_, _, sub64 x y c hc, Nat.mod_lt _ (by omega), by split <;> omega, ?_⟩
  split <;> omega

/-- what num.Add answers -/
def addV (x y : Nat) : Value := if x + y < TOP then .tuple #[V (x + y), .int .i64 0] else .tuple #[V 0, .int .i64 2]

set_option maxHeartbeats 1000000 in
theorem add_calls (x y : Nat) (hx : x < TOP) (hy : y < TOP) (w : World) :
    Calls Try.prog 79 #[V x, V y] w fun e w' => e = .returned (addV x y) ∧ Below w.heap.size w w' := by
  obtain ⟨a0, a1, a2, a3, hv, ha0, ha1, ha2, ha3, hxe⟩ := V_open hx
  obtain ⟨b0, b1, b2, b3, hu, hb0, hb1, hb2, hb3, hye⟩ := V_open hy
  obtain ⟨s0, c0, h0, hs0, hc0, e0⟩ := add64_ex ha0 hb0 (Nat.zero_le 1)
  obtain ⟨s1, c1, h1, hs1, hc1, e1⟩ := add64_ex ha1 hb1 hc0
  obtain ⟨s2, c2, h2, hs2, hc2, e2⟩ := add64_ex ha2 hb2 hc1
  obtain ⟨s3, c3, h3, hs3, hc3, e3⟩ := add64_ex ha3 hb3 hc2
  rw [hv, hu]
  by_cases hc : c3 = 0
  · have hf : addV x y = .tuple #[V4 s0 s1 s2 s3, .int .i64 0] := by
      have e : x + y = mk4 s0 s1 s2 s3 := by rw [hxe, hye]; unfold mk4; omega
      unfold addV
      rw [e, if_pos (mk4_lt hs0 hs1 hs2 hs3), V_mk4 hs0 hs1 hs2 hs3]
    rw [hf]
    have hn : ((c3 : Int) != 0) = false := by rw [hc]; rfl
    simp only [Int.natCast_zero] at h0
    unfold V4
    clear hv hu hxe hye e0 e1 e2 e3 hc hf ha0 ha1 ha2 ha3 hb0 hb1 hb2 hb3 hs0 hs1 hs2 hs3 hc0 hc1 hc2 hc3 hx hy
    go_enter Try.func79, Try.ntmps79
    go_wp2
    refine wp_loop_rounds 5 ?_
    rw [rounds_succ]
    go_wp2
    go_region
    go_wp2
    rw [rounds_succ]
    go_wp2
    go_region
    go_wp2
    rw [rounds_succ]
    go_wp2
    go_region
    go_wp2
    rw [rounds_succ]
    go_wp2
    go_region
    go_wp2
    rw [rounds_succ]
    go_wp2
    refine bodyPost_ret (v := .tuple #[.agg #[.int .u64 s0, .int .u64 s1, .int .u64 s2, .int .u64 s3], .int .i64 0]) (by simp [results, Try.results79, go_sem]) rfl ⟨rfl, ?_⟩
    repeat (first | exact Below.refl _ _ | refine Below.setCell ?_ (by simp) _ | refine Below.alloc ?_ (by simp <;> omega) _ | refine Below.drew ?_)
  · have hf : addV x y = .tuple #[V4 0 0 0 0, .int .i64 2] := by
      have e : x + y = mk4 s0 s1 s2 s3 + TOP := by rw [hxe, hye, top_eq]; unfold mk4; omega
      have h0 : V 0 = V4 0 0 0 0 := V_mk4 (a := 0) (b := 0) (c := 0) (d := 0) (by omega) (by omega) (by omega) (by omega)
      unfold addV
      rw [e, if_neg (by omega), h0]
    rw [hf]
    have hn : ((c3 : Int) != 0) = true := by rw [bne_iff_ne]; omega
    simp only [Int.natCast_zero] at h0
    unfold V4
    clear hv hu hxe hye e0 e1 e2 e3 hc hf ha0 ha1 ha2 ha3 hb0 hb1 hb2 hb3 hs0 hs1 hs2 hs3 hc0 hc1 hc2 hc3 hx hy
    go_enter Try.func79, Try.ntmps79
    go_wp2
    refine wp_loop_rounds 5 ?_
    rw [rounds_succ]
    go_wp2
    go_region
    go_wp2
    rw [rounds_succ]
    go_wp2
    go_region
    go_wp2
    rw [rounds_succ]
    go_wp2
    go_region
    go_wp2
    rw [rounds_succ]
    go_wp2
    go_region
    go_wp2
    rw [rounds_succ]
    go_wp2
    refine bodyPost_ret (v := .tuple #[.agg #[.int .u64 0, .int .u64 0, .int .u64 0, .int .u64 0], .int .i64 2]) (by simp [results, Try.results79, go_sem]) rfl ⟨rfl, ?_⟩
    repeat (first | exact Below.refl _ _ | refine Below.setCell ?_ (by simp) _ | refine Below.alloc ?_ (by simp <;> omega) _ | refine Below.drew ?_)

/-- what num.sub answers -/
def subV (x y : Nat) : Value := if y ≤ x then .tuple #[V (x - y), .bool false] else .tuple #[V (x + TOP - y), .bool true]

set_option maxHeartbeats 1000000 in
theorem sub_calls (x y : Nat) (hx : x < TOP) (hy : y < TOP) (w : World) :
    Calls Try.prog 107 #[V x, V y] w fun e w' => e = .returned (subV x y) ∧ Below w.heap.size w w' := by
  obtain ⟨a0, a1, a2, a3, hv, ha0, ha1, ha2, ha3, hxe⟩ := V_open hx
  obtain ⟨b0, b1, b2, b3, hu, hb0, hb1, hb2, hb3, hye⟩ := V_open hy
  obtain ⟨s0, c0, h0, hs0, hc0, e0⟩ := sub64_ex ha0 hb0 (Nat.zero_le 1)
  obtain ⟨s1, c1, h1, hs1, hc1, e1⟩ := sub64_ex ha1 hb1 hc0
  obtain ⟨s2, c2, h2, hs2, hc2, e2⟩ := sub64_ex ha2 hb2 hc1
  obtain ⟨s3, c3, h3, hs3, hc3, e3⟩ := sub64_ex ha3 hb3 hc2
  obtain ⟨q, hq⟩ : ∃ q : Bool, ((c3 : Int) != 0) = q := ⟨_, rfl⟩
  rw [hv, hu]
  have hf : subV x y = .tuple #[V4 s0 s1 s2 s3, .bool q] := by
    have hl := mk4_lt hs0 hs1 hs2 hs3
    unfold subV
    by_cases hc : c3 = 0
    · have e : x = mk4 s0 s1 s2 s3 + y := by rw [hxe, hye]; unfold mk4; omega
      have hq' : q = false := by rw [← hq, hc]; rfl
      rw [if_pos (by omega), hq', show x - y = mk4 s0 s1 s2 s3 by omega, V_mk4 hs0 hs1 hs2 hs3]
    · have e : x + TOP = mk4 s0 s1 s2 s3 + y := by rw [hxe, hye, top_eq]; unfold mk4; omega
      have hq' : q = true := by rw [← hq, bne_iff_ne]; omega
      rw [if_neg (by omega), hq', show x + TOP - y = mk4 s0 s1 s2 s3 by omega, V_mk4 hs0 hs1 hs2 hs3]
  rw [hf]
  simp only [Int.natCast_zero] at h0
  unfold V4
  clear hv hu hxe hye e0 e1 e2 e3 hf ha0 ha1 ha2 ha3 hb0 hb1 hb2 hb3 hs0 hs1 hs2 hs3 hc0 hc1 hc2 hc3 hx hy
  go_enter Try.func107, Try.ntmps107
  go_wp2
  refine wp_loop_rounds 5 ?_
  rw [rounds_succ]
  go_wp2
  go_region
  go_wp2
  rw [rounds_succ]
  go_wp2
  go_region
  go_wp2
  rw [rounds_succ]
  go_wp2
  go_region
  go_wp2
  rw [rounds_succ]
  go_wp2
  go_region
  go_wp2
  rw [rounds_succ]
  go_wp2
  refine bodyPost_ret (v := .tuple #[.agg #[.int .u64 s0, .int .u64 s1, .int .u64 s2, .int .u64 s3], .bool q]) (by simp [results, Try.results107, go_sem]) rfl ⟨rfl, ?_⟩
  repeat (first | exact Below.refl _ _ | refine Below.setCell ?_ (by simp) _ | refine Below.alloc ?_ (by simp <;> omega) _ | refine Below.drew ?_)

end Go.Proofs.Ytmjdmhelmgcanaa

/- num.Cmp: how two numbers stand to one another: the parts are gone through from the highest on, by the library's iterator. -/
namespace Go.Proofs.Ytmjdmhelmgcanaa
open Go.RowKit Go.Shelf

attribute [local go_sem] Oper.semAt_some

def bidx : Nat → Int
  | 0 => 3
  | 1 => 2
  | 2 => 1
  | 3 => 0
  | _ => -1
/-- the rounds by their numbers: what has come when k of them are over -/
def fins : Nat → List (Fin 4)
  | 0 => []
  | 1 => [0]
  | 2 => [0, 1]
  | 3 => [0, 1, 2]
  | _ => [0, 1, 2, 3]

theorem fins_last {k : Nat} (hk : k ≤ 4) {ini : List (Fin 4)} {last : Fin 4} (h : fins k = ini ++ [last]) :
    (ini = [] ∧ last = 0) ∨ (ini = [0] ∧ last = 1) ∨ (ini = [0, 1] ∧ last = 2) ∨ (ini = [0, 1, 2] ∧ last = 3) := by
  have hk5 : k = 0 ∨ k = 1 ∨ k = 2 ∨ k = 3 ∨ k = 4 := by omega
  rcases hk5 with rfl | rfl | rfl | rfl | rfl
  · simp [fins] at h
  · obtain ⟨h1, h2⟩ := List.append_inj' (show [] ++ [0] = ini ++ [last] from h) rfl
    exact .inl ⟨h1.symm, by simpa using h2.symm⟩
  · obtain ⟨h1, h2⟩ := List.append_inj' (show [0] ++ [1] = ini ++ [last] from h) rfl
    exact .inr (.inl ⟨h1.symm, by simpa using h2.symm⟩)
  · obtain ⟨h1, h2⟩ := List.append_inj' (show [0, 1] ++ [2] = ini ++ [last] from h) rfl
    exact .inr (.inr (.inl ⟨h1.symm, by simpa using h2.symm⟩))
  · obtain ⟨h1, h2⟩ := List.append_inj' (show [0, 1, 2] ++ [3] = ini ++ [last] from h) rfl
    exact .inr (.inr (.inr ⟨h1.symm, by simpa using h2.symm⟩))

theorem nan_in (F : Fence) (n : Nat) (h : F.fn 111) (hro : F.round = none) (x : Int) (w : World) :
    CallsIn F n Try.prog 111 #[.int .u64 x] w fun e w' => e = .returned (.bool false) ∧ w = w' := by
  refine callsIn_of_wp Try.func111 rfl h ?_ hro
  simp only [Try.ntmps111, List.size_toArray, List.length_cons, List.length_nil, Nat.reduceAdd, Nat.reduceSub, Array.replicate_succ, Array.replicate_zero, List.push_toArray, List.append_toArray, List.nil_append, List.cons_append]
  gi_wp2
  go_ret
  exact ⟨by simp, rfl⟩

def cmpI (x y : Int) : Int := if x < y then -1 else if y < x then 1 else 0

theorem compare_in (F : Fence) (n : Nat) (h : F.fn 99) (h1 : F.fn 111) (hro : F.round = none) (hn : 1 ≤ n) (x y : Int) (w : World) :
    CallsIn F n Try.prog 99 #[.int .u64 x, .int .u64 y] w fun e w' => e = .returned (.int .i64 (cmpI x y)) ∧ w = w' := by
  have hc : (x < y ∧ cmpI x y = -1) ∨ (¬ x < y ∧ y < x ∧ cmpI x y = 1) ∨ (¬ x < y ∧ ¬ y < x ∧ cmpI x y = 0) := by
    unfold cmpI; split
    · exact .inl ⟨by assumption, rfl⟩
    · split
      · exact .inr (.inl ⟨by assumption, by assumption, rfl⟩)
      · exact .inr (.inr ⟨by assumption, by assumption, rfl⟩)
  rcases hc with ⟨h2, h3⟩ | ⟨h2, h3, h4⟩ | ⟨h2, h3, h4⟩
  all_goals
    first | rw [h4] | rw [h3]
    refine callsIn_of_wp Try.func99 rfl h ?_ hro
    simp only [Try.ntmps99, List.size_toArray, List.length_cons, List.length_nil, Nat.reduceAdd, Nat.reduceSub, Array.replicate_succ, Array.replicate_zero, List.push_toArray, List.append_toArray, List.nil_append, List.cons_append]
    gi_wp2_with (gi_at_call 111; refine (nan_in F (n - 1) h1 hro _ _).mono ?_; rintro e w' ⟨rfl, rfl⟩)
    go_ret
    exact ⟨rfl, rfl⟩

theorem compare_c (F : Fence) (n : Nat) (h : F.fn 99) (h1 : F.fn 111) (hro : F.round = none) (hn : 1 ≤ n) (x y c : Int) (hc : cmpI x y = c) (w : World) :
    CallsIn F n Try.prog 99 #[.int .u64 x, .int .u64 y] w fun e w' => e = .returned (.int .i64 c) ∧ w = w' := by
  subst hc; exact compare_in F n h h1 hro hn x y w

set_option maxRecDepth 100000 in
set_option maxHeartbeats 2000000 in
theorem back_in (F : Fence) (n : Nat) (h : F.fn 110) (hro : F.round = none) (hn : 1 ≤ n) (l Bs n₀ b : Nat) (z : Nat → Int) (hb : b < n₀) (hBs0 : Bs < n₀) (J Jx : List (Fin 4) → World → Prop)
    (hY : ∀ (pre : List (Fin 4)) (x : Fin 4) W, J pre W → pre.length < 4 → YieldAt F (n - 1) Try.prog l #[.int .i64 (bidx x), .int .u64 (z x)] W fun e W' =>
      (e = .returned (.bool true) ∧ J (pre ++ [x]) W' ∧ Below n₀ W W') ∨ (e = .returned (.bool false) ∧ Jx (pre ++ [x]) W'))
    (W : World) (hBs : W.cell? ⟨Bs, 0, none⟩ = some (.slice (some ⟨b, 0, none⟩) 4 4))
    (hc0 : W.cell? ⟨b, 0, none⟩ = some (.int .u64 (z 3))) (hc1 : W.cell? ⟨b, 1, none⟩ = some (.int .u64 (z 2))) (hc2 : W.cell? ⟨b, 2, none⟩ = some (.int .u64 (z 1))) (hc3 : W.cell? ⟨b, 3, none⟩ = some (.int .u64 (z 0))) (h0 : J [] W) :
    CallsIn F n Try.prog 110 #[.func (.yield l) #[] #[], .pointer (some ⟨Bs, 0, none⟩)] W fun e W' => (∃ v, e = .returned v) ∧
      ((∃ ys, ys = fins 4 ∧ J ys W') ∨ (∃ pre, (∃ k, k ≤ 4 ∧ pre = fins k) ∧ Jx pre W')) := by
  refine callsIn_of_wp Try.func110 rfl h ?_ hro
  simp only [Try.ntmps110, List.size_toArray, List.length_cons, List.length_nil, Nat.reduceAdd, Nat.reduceSub, Array.replicate_succ, Array.replicate_zero, List.push_toArray, List.append_toArray, List.nil_append, List.cons_append]
  gi_wp2
  gi_loopw [3] (fun i wr => ∃ k : Nat, k ≤ 4 ∧ i = .int .i64 (bidx k) ∧ J (fins k) wr ∧ Below n₀ W wr)
    (fun i _ => (intOf i + 1).toNat)
  case atStart => exact ⟨0, Nat.zero_le _, rfl, h0, Below.refl _ _⟩
  case round =>
    obtain ⟨k, hk, rfl, hJs, hnx⟩ := hrel
    have cBs := (hnx.cell (p := ⟨Bs, 0, none⟩) hBs0).trans hBs
    have c0 := (hnx.cell (p := ⟨b, 0, none⟩) hb).trans hc0
    have c1 := (hnx.cell (p := ⟨b, 1, none⟩) hb).trans hc1
    have c2 := (hnx.cell (p := ⟨b, 2, none⟩) hb).trans hc2
    have c3 := (hnx.cell (p := ⟨b, 3, none⟩) hb).trans hc3
    clear hc0 hc1 hc2 hc3 hBs
    have hk5 : k = 0 ∨ k = 1 ∨ k = 2 ∨ k = 3 ∨ k = 4 := by omega
    rcases hk5 with rfl | rfl | rfl | rfl | rfl
    · obtain ⟨fn, tmps, assign, body, hy, hR⟩ := hY _ 0 wr hJs (by decide)
      simp only [show ((0 : Fin 4) : Nat) = 0 from rfl, bidx] at hy ⊢
      gi_wp2
      refine hR.mono ?_
      rintro e W3 (⟨rfl, hJ3, hk3⟩ | ⟨rfl, hJx3⟩)
      · gi_wp2
        go_roundw
        case rel => exact ⟨1, by omega, rfl, hJ3, hnx.trans hk3⟩
        case measure => simp [intOf]
      · gi_wp2
        refine bodyPost_ret (results_none rfl _ _ _) rfl ?_
        exact ⟨⟨_, rfl⟩, .inr ⟨_, ⟨1, by omega, rfl⟩, hJx3⟩⟩
    · obtain ⟨fn, tmps, assign, body, hy, hR⟩ := hY _ 1 wr hJs (by decide)
      simp only [show ((1 : Fin 4) : Nat) = 1 from rfl, bidx] at hy ⊢
      gi_wp2
      refine hR.mono ?_
      rintro e W3 (⟨rfl, hJ3, hk3⟩ | ⟨rfl, hJx3⟩)
      · gi_wp2
        go_roundw
        case rel => exact ⟨2, by omega, rfl, hJ3, hnx.trans hk3⟩
        case measure => simp [intOf]
      · gi_wp2
        refine bodyPost_ret (results_none rfl _ _ _) rfl ?_
        exact ⟨⟨_, rfl⟩, .inr ⟨_, ⟨2, by omega, rfl⟩, hJx3⟩⟩
    · obtain ⟨fn, tmps, assign, body, hy, hR⟩ := hY _ 2 wr hJs (by decide)
      simp only [show ((2 : Fin 4) : Nat) = 2 from rfl, bidx] at hy ⊢
      gi_wp2
      refine hR.mono ?_
      rintro e W3 (⟨rfl, hJ3, hk3⟩ | ⟨rfl, hJx3⟩)
      · gi_wp2
        go_roundw
        case rel => exact ⟨3, by omega, rfl, hJ3, hnx.trans hk3⟩
        case measure => simp [intOf]
      · gi_wp2
        refine bodyPost_ret (results_none rfl _ _ _) rfl ?_
        exact ⟨⟨_, rfl⟩, .inr ⟨_, ⟨3, by omega, rfl⟩, hJx3⟩⟩
    · obtain ⟨fn, tmps, assign, body, hy, hR⟩ := hY _ 3 wr hJs (by decide)
      simp only [show ((3 : Fin 4) : Nat) = 3 from rfl, bidx] at hy ⊢
      gi_wp2
      refine hR.mono ?_
      rintro e W3 (⟨rfl, hJ3, hk3⟩ | ⟨rfl, hJx3⟩)
      · gi_wp2
        go_roundw
        case rel => exact ⟨4, by omega, rfl, hJ3, hnx.trans hk3⟩
        case measure => simp [intOf]
      · gi_wp2
        refine bodyPost_ret (results_none rfl _ _ _) rfl ?_
        exact ⟨⟨_, rfl⟩, .inr ⟨_, ⟨4, by omega, rfl⟩, hJx3⟩⟩
    · simp only [bidx]
      gi_wp2
      go_end0
      exact ⟨⟨_, rfl⟩, .inl ⟨_, rfl, hJs⟩⟩

theorem back_stops (F : Fence) (n : Nat) (h : F.fn 110) (hro : F.round = none) (hn : 1 ≤ n) (Bs n₀ b : Nat) (z : Nat → Int) (w : World) (hn₀ : n₀ ≤ w.heap.size) (hb : b < n₀) (hBs0 : Bs < n₀)
    (hBs : w.cell? ⟨Bs, 0, none⟩ = some (.slice (some ⟨b, 0, none⟩) 4 4))
    (hc0 : w.cell? ⟨b, 0, none⟩ = some (.int .u64 (z 3))) (hc1 : w.cell? ⟨b, 1, none⟩ = some (.int .u64 (z 2))) (hc2 : w.cell? ⟨b, 2, none⟩ = some (.int .u64 (z 1))) (hc3 : w.cell? ⟨b, 3, none⟩ = some (.int .u64 (z 0))) :
    SeqStopsK F n Try.prog 110 #[.pointer (some ⟨Bs, 0, none⟩)] (fun x : Fin 4 => #[Value.int .i64 (bidx x), Value.int .u64 (z x)]) (Below n₀) (fun ys => ys = fins 4)
      (fun pre => ∃ k, k ≤ 4 ∧ pre = fins k) 4 w := fun l J Jx W hW _ _ hY h0 => by
  have g := fun o => (hW.mono hn₀).cell (p := ⟨b, o, none⟩) hb
  exact back_in F n h hro hn l Bs n₀ b z hb hBs0 J Jx hY W (((hW.mono hn₀).cell (p := ⟨Bs, 0, none⟩) hBs0).trans hBs) ((g 0).trans hc0) ((g 1).trans hc1) ((g 2).trans hc2) ((g 3).trans hc3) h0

theorem backward_in (F : Fence) (n : Nat) (h : F.fn 98) (hro : F.round = none) (a : Option Addr) (len cap : Nat) (w : World) :
    CallsIn F n Try.prog 98 #[.slice a len cap] w fun e w' => e = .returned (.func (.func 110) #[] #[.pointer (some ⟨w.heap.size, 0, none⟩)]) ∧ w' = w.alloc (.cells #[.slice a len cap] 88) := by
  refine callsIn_of_wp Try.func98 rfl h ?_ hro
  simp only [Try.ntmps98, List.size_toArray, List.length_cons, List.length_nil, Nat.reduceAdd, Nat.reduceSub, Array.replicate_succ, Array.replicate_zero, List.push_toArray, List.append_toArray, List.nil_append, List.cons_append]
  gi_wp2
  go_ret
  exact ⟨rfl, rfl⟩

theorem alloc_get (w : World) (o : Obj) (i : Nat) : (w.alloc o).heap[i]? = if i = w.heap.size then some o else w.heap[i]? := by
  simp only [World.alloc, Array.getElem?_push]

theorem heap4 (w : World) (p q r s : Obj) : let W := (((w.alloc p).alloc q).alloc r).alloc s
    W.heap[w.heap.size]? = some p ∧ W.heap[w.heap.size + 1]? = some q ∧ W.heap[w.heap.size + 2]? = some r ∧ W.heap[w.heap.size + 3]? = some s := by
  intro W
  refine ⟨?_, ?_, ?_, ?_⟩
  · rw [alloc_get, if_neg (by simp only [World.size_alloc]; omega), alloc_get, if_neg (by simp only [World.size_alloc]; omega), alloc_get, if_neg (by simp only [World.size_alloc]; omega), alloc_get, if_pos rfl]
  · rw [alloc_get, if_neg (by simp only [World.size_alloc]; omega), alloc_get, if_neg (by simp only [World.size_alloc]; omega), alloc_get, if_pos (by simp only [World.size_alloc])]
  · rw [alloc_get, if_neg (by simp only [World.size_alloc]; omega), alloc_get, if_pos (by simp only [World.size_alloc])]
  · rw [alloc_get, if_pos (by simp only [World.size_alloc])]

/-- the first difference, from the highest part on -/
def cmp4 (x y : Nat → Int) : Nat → Int
  | 0 => 0
  | k + 1 => if cmp4 x y k = 0 then cmpI (x k) (y k) else cmp4 x y k

set_option maxRecDepth 100000 in
set_option maxHeartbeats 4000000 in
theorem cmp_in (F : Fence) (n : Nat) (h71 : F.fn 71) (h98 : F.fn 98) (h110 : F.fn 110) (h99 : F.fn 99) (h111 : F.fn 111) (hro : F.round = none) (hn : 5 ≤ n) (x y : Nat → Int) (w : World) :
    CallsIn F n Try.prog 71 #[.agg #[.int .u64 (x 3), .int .u64 (x 2), .int .u64 (x 1), .int .u64 (x 0)], .agg #[.int .u64 (y 3), .int .u64 (y 2), .int .u64 (y 1), .int .u64 (y 0)]] w fun e W' =>
      e = .returned (.int .i64 (cmp4 x y 4)) ∧ Below w.heap.size w W' := by
  have h1 : 1 ≤ n := by omega
  refine callsIn_of_wp_marks Try.func71 rfl h71 ?_ hro
  simp only [Try.ntmps71, List.size_toArray, List.length_cons, List.length_nil, Nat.reduceAdd, Nat.reduceSub, Array.replicate_succ, Array.replicate_zero, List.push_toArray, List.append_toArray, List.nil_append, List.cons_append]
  gi_wp2_with (gi_at_call 98; refine (backward_in F (n - 1) h98 hro _ _ _ _).mono ?_; rintro e w' ⟨rfl, rfl⟩)
  obtain ⟨W4, hW4⟩ : ∃ W4, (((w.alloc (.cells #[.int .u64 (x 3), .int .u64 (x 2), .int .u64 (x 1), .int .u64 (x 0)] 28)).alloc (.cells #[.int .u64 (y 3), .int .u64 (y 2), .int .u64 (y 1), .int .u64 (y 0)] 28)).alloc (.cells #[.int .i64 0] 3)).alloc
      (.cells #[.slice (some ⟨w.heap.size, 0, none⟩) 4 4] 88) = W4 := ⟨_, rfl⟩
  have hB0 : Below w.heap.size w W4 := by
    rw [← hW4]
    exact ((((Below.refl _ w).alloc (Nat.le_refl _) _).alloc (by simp) _).alloc (by simp <;> omega) _).alloc (by simp <;> omega) _
  have hsz : W4.heap.size = w.heap.size + 4 := by rw [← hW4]; simp
  have hh := heap4 w (.cells #[.int .u64 (x 3), .int .u64 (x 2), .int .u64 (x 1), .int .u64 (x 0)] 28) (.cells #[.int .u64 (y 3), .int .u64 (y 2), .int .u64 (y 1), .int .u64 (y 0)] 28) (.cells #[.int .i64 0] 3) (.cells #[.slice (some ⟨w.heap.size, 0, none⟩) 4 4] 88)
  simp only [hW4] at hh
  obtain ⟨hA, hY, hR, hS⟩ := hh
  have cA := fun j => cell_of_row W4 _ j _ _ _ hA
  have cY := fun j => cell_of_row W4 _ j _ _ _ hY
  have cR := fun j => cell_of_row W4 _ j _ _ _ hR
  have cS := fun j => cell_of_row W4 _ j _ _ _ hS
  have zR := frozen_of_row W4 _ 0 _ _ hR
  rw [hW4]
  refine wpIn_rangeFunc_ownG hro h1 (gf := 110) (lb := #[.pointer (some ⟨w.heap.size + 3, 0, none⟩)]) rfl h110 (enters_of Try.func110 (by kernel_rfl) rfl)
    (back_stops F (n - 1) h110 hro (by omega) (w.heap.size + 3) (w.heap.size + 4) w.heap.size x _ (by omega) (by omega) (by omega) (cS 0) (cA 0) (cA 1) (cA 2) (cA 3)) belowK_t (belowK_b (by omega)) (Below.refl _ _) (fun _ => rfl)
    (fun (pre : List (Fin 4)) W => ((∀ j ∈ pre, cmpI (x j) (y j) = 0) ∧ (W.cell? ⟨w.heap.size + 2, 0, none⟩ = some (.int .i64 0) ∧ W.frozen? ⟨w.heap.size + 2, 0, none⟩ = false) ∧
      W.cell? ⟨w.heap.size + 1, 0, none⟩ = some (.int .u64 (y 3)) ∧ W.cell? ⟨w.heap.size + 1, 1, none⟩ = some (.int .u64 (y 2)) ∧ W.cell? ⟨w.heap.size + 1, 2, none⟩ = some (.int .u64 (y 1)) ∧ W.cell? ⟨w.heap.size + 1, 3, none⟩ = some (.int .u64 (y 0))) ∧ Below w.heap.size w W)
    (fun c (pre : List (Fin 4)) W => (c = .ret ∧ ∃ (ini : List (Fin 4)) (last : Fin 4), pre = ini ++ [last] ∧ (∀ j ∈ ini, cmpI (x j) (y j) = 0) ∧ cmpI (x last) (y last) ≠ 0 ∧ W.cell? ⟨w.heap.size + 2, 0, none⟩ = some (.int .i64 (cmpI (x last) (y last)))) ∧ Below w.heap.size w W)
    (OwnFrom.and (Own.from (fun s A B row hs hg hr => ⟨hs.1, ⟨cell_kept hs.2.1.1 hg hr, (frozen_kept hs.2.1.1 hg hr).trans hs.2.1.2⟩, cell_kept hs.2.2.1 hg hr, cell_kept hs.2.2.2.1 hg hr, cell_kept hs.2.2.2.2.1 hg hr, cell_kept hs.2.2.2.2.2 hg hr⟩) _) (ownFrom_below (Nat.le_refl _) (by omega)))
    (fun c => OwnFrom.and (Own.from (fun s A B row hs hg hr => by obtain ⟨hc, ini, last, e1, e2, e3, e4⟩ := hs; exact ⟨hc, ini, last, e1, e2, e3, cell_kept e4 hg hr⟩) _) (ownFrom_below (Nat.le_refl _) (by omega)))
    ⟨⟨by simp, ⟨cR 0, zR⟩, cY 0, cY 1, cY 2, cY 3⟩, hB0⟩
    (fun k => { tmps := #[.agg #[.int .u64 (x 3), .int .u64 (x 2), .int .u64 (x 1), .int .u64 (x 0)], .agg #[.int .u64 (y 3), .int .u64 (y 2), .int .u64 (y 1), .int .u64 (y 0)], .pointer (some ⟨w.heap.size, 0, none⟩), .pointer (some ⟨w.heap.size + 1, 0, none⟩), .pointer (some ⟨w.heap.size + 2, 0, none⟩),
      .int .i64 (bidx k), .int .u64 (x k), undef, .slice (some ⟨w.heap.size, 0, none⟩) 4 4, .func (.func 110) #[] #[.pointer (some ⟨w.heap.size + 3, 0, none⟩)], .int .i64 (bidx k), .int .u64 (x k), undef, undef, undef, undef, undef, undef, undef, undef], defers := [] }) ?assign ?body ?done ?stop
  case assign =>
    intro l x W K hK
    gi_wp2
    exact hK
  case body =>
    have h12 : 1 ≤ n - 1 - 1 := by omega
    rintro l pre k W ⟨⟨hp, ⟨hcr, hfr⟩, y0, y1, y2, y3⟩, hB⟩ _
    have hk : k = 0 ∨ k = 1 ∨ k = 2 ∨ k = 3 := by revert k; decide
    rcases hk with rfl | rfl | rfl | rfl
    · obtain ⟨c, hcc⟩ : ∃ c, cmpI (x 0) (y 0) = c := ⟨_, rfl⟩
      by_cases h0 : c = 0
      · subst h0
        have Hcc := Lib.hid hcc
        clear hcc
        simp only [show ((0 : Fin 4) : Nat) = 0 from rfl, bidx]
        gi_wp2_with (gi_at_call 99; refine (CallsIn.inRound l (compare_c F _ h99 h111 hro (by omega) _ _ _ Hcc.out _)).mono ?_; rintro e w' ⟨rfl, rfl⟩)
        exact ⟨KeepsFrom.refl _ _, Below.refl _ _, ⟨fun j hj => (List.mem_append.1 hj).elim (hp j) (fun e => by simp at e; subst e; exact Hcc.out), ⟨hcr, hfr⟩, y0, y1, y2, y3⟩, hB⟩
      · have hne : (c != 0) = true := by rw [bne_iff_ne]; exact h0
        have Hcc := Lib.hid hcc
        have H0 := Lib.hid h0
        clear hcc h0
        simp only [show ((0 : Fin 4) : Nat) = 0 from rfl, bidx]
        gi_wp2_with (gi_at_call 99; refine (CallsIn.inRound l (compare_c F _ h99 h111 hro (by omega) _ _ _ Hcc.out _)).mono ?_; rintro e w' ⟨rfl, rfl⟩)
        refine ⟨(KeepsOthers.setCell _ _ _).from _, ⟨rfl, pre, 0, rfl, hp, by rw [show ((0 : Fin 4) : Nat) = 0 from rfl, Hcc.out]; exact H0.out, ?_⟩, hB.setCell (p := ⟨w.heap.size + 2, 0, none⟩) (by simp) _⟩
        rw [show ((0 : Fin 4) : Nat) = 0 from rfl, Hcc.out]
        exact World.cell?_setCell_same' _ _ _ (by rw [hcr]; rfl)
    · obtain ⟨c, hcc⟩ : ∃ c, cmpI (x 1) (y 1) = c := ⟨_, rfl⟩
      by_cases h0 : c = 0
      · subst h0
        have Hcc := Lib.hid hcc
        clear hcc
        simp only [show ((1 : Fin 4) : Nat) = 1 from rfl, bidx]
        gi_wp2_with (gi_at_call 99; refine (CallsIn.inRound l (compare_c F _ h99 h111 hro (by omega) _ _ _ Hcc.out _)).mono ?_; rintro e w' ⟨rfl, rfl⟩)
        exact ⟨KeepsFrom.refl _ _, Below.refl _ _, ⟨fun j hj => (List.mem_append.1 hj).elim (hp j) (fun e => by simp at e; subst e; exact Hcc.out), ⟨hcr, hfr⟩, y0, y1, y2, y3⟩, hB⟩
      · have hne : (c != 0) = true := by rw [bne_iff_ne]; exact h0
        have Hcc := Lib.hid hcc
        have H0 := Lib.hid h0
        clear hcc h0
        simp only [show ((1 : Fin 4) : Nat) = 1 from rfl, bidx]
        gi_wp2_with (gi_at_call 99; refine (CallsIn.inRound l (compare_c F _ h99 h111 hro (by omega) _ _ _ Hcc.out _)).mono ?_; rintro e w' ⟨rfl, rfl⟩)
        refine ⟨(KeepsOthers.setCell _ _ _).from _, ⟨rfl, pre, 1, rfl, hp, by rw [show ((1 : Fin 4) : Nat) = 1 from rfl, Hcc.out]; exact H0.out, ?_⟩, hB.setCell (p := ⟨w.heap.size + 2, 0, none⟩) (by simp) _⟩
        rw [show ((1 : Fin 4) : Nat) = 1 from rfl, Hcc.out]
        exact World.cell?_setCell_same' _ _ _ (by rw [hcr]; rfl)
    · obtain ⟨c, hcc⟩ : ∃ c, cmpI (x 2) (y 2) = c := ⟨_, rfl⟩
      by_cases h0 : c = 0
      · subst h0
        have Hcc := Lib.hid hcc
        clear hcc
        simp only [show ((2 : Fin 4) : Nat) = 2 from rfl, bidx]
        gi_wp2_with (gi_at_call 99; refine (CallsIn.inRound l (compare_c F _ h99 h111 hro (by omega) _ _ _ Hcc.out _)).mono ?_; rintro e w' ⟨rfl, rfl⟩)
        exact ⟨KeepsFrom.refl _ _, Below.refl _ _, ⟨fun j hj => (List.mem_append.1 hj).elim (hp j) (fun e => by simp at e; subst e; exact Hcc.out), ⟨hcr, hfr⟩, y0, y1, y2, y3⟩, hB⟩
      · have hne : (c != 0) = true := by rw [bne_iff_ne]; exact h0
        have Hcc := Lib.hid hcc
        have H0 := Lib.hid h0
        clear hcc h0
        simp only [show ((2 : Fin 4) : Nat) = 2 from rfl, bidx]
        gi_wp2_with (gi_at_call 99; refine (CallsIn.inRound l (compare_c F _ h99 h111 hro (by omega) _ _ _ Hcc.out _)).mono ?_; rintro e w' ⟨rfl, rfl⟩)
        refine ⟨(KeepsOthers.setCell _ _ _).from _, ⟨rfl, pre, 2, rfl, hp, by rw [show ((2 : Fin 4) : Nat) = 2 from rfl, Hcc.out]; exact H0.out, ?_⟩, hB.setCell (p := ⟨w.heap.size + 2, 0, none⟩) (by simp) _⟩
        rw [show ((2 : Fin 4) : Nat) = 2 from rfl, Hcc.out]
        exact World.cell?_setCell_same' _ _ _ (by rw [hcr]; rfl)
    · obtain ⟨c, hcc⟩ : ∃ c, cmpI (x 3) (y 3) = c := ⟨_, rfl⟩
      by_cases h0 : c = 0
      · subst h0
        have Hcc := Lib.hid hcc
        clear hcc
        simp only [show ((3 : Fin 4) : Nat) = 3 from rfl, bidx]
        gi_wp2_with (gi_at_call 99; refine (CallsIn.inRound l (compare_c F _ h99 h111 hro (by omega) _ _ _ Hcc.out _)).mono ?_; rintro e w' ⟨rfl, rfl⟩)
        exact ⟨KeepsFrom.refl _ _, Below.refl _ _, ⟨fun j hj => (List.mem_append.1 hj).elim (hp j) (fun e => by simp at e; subst e; exact Hcc.out), ⟨hcr, hfr⟩, y0, y1, y2, y3⟩, hB⟩
      · have hne : (c != 0) = true := by rw [bne_iff_ne]; exact h0
        have Hcc := Lib.hid hcc
        have H0 := Lib.hid h0
        clear hcc h0
        simp only [show ((3 : Fin 4) : Nat) = 3 from rfl, bidx]
        gi_wp2_with (gi_at_call 99; refine (CallsIn.inRound l (compare_c F _ h99 h111 hro (by omega) _ _ _ Hcc.out _)).mono ?_; rintro e w' ⟨rfl, rfl⟩)
        refine ⟨(KeepsOthers.setCell _ _ _).from _, ⟨rfl, pre, 3, rfl, hp, by rw [show ((3 : Fin 4) : Nat) = 3 from rfl, Hcc.out]; exact H0.out, ?_⟩, hB.setCell (p := ⟨w.heap.size + 2, 0, none⟩) (by simp) _⟩
        rw [show ((3 : Fin 4) : Nat) = 3 from rfl, Hcc.out]
        exact World.cell?_setCell_same' _ _ _ (by rw [hcr]; rfl)
  case done =>
    rintro D ys W hD rfl ⟨⟨hne, ⟨hcr, hfr⟩, _⟩, hB⟩ hK
    gi_wp2
    have hK' := (KeepsOthers.setCell W ⟨w.heap.size + 2, 0, none⟩ (.int .i64 0)).same D _ hK rfl
    refine ⟨by simp, .inl ⟨_, _, rfl, run_takeDeferred hK', ?_⟩⟩
    have hc5 := cell_kept (World.cell?_setCell_same' W ⟨w.heap.size + 2, 0, none⟩ (.int .i64 0) (by rw [hcr]; rfl)) (grownBy_putObj' _ D (.deferred none)) (fun r e => by cases e; exact ⟨_, hK', rfl⟩)
    have hz : cmp4 x y 4 = 0 := by
      have e0 := hne 0 (by decide)
      have e1 := hne 1 (by decide)
      have e2 := hne 2 (by decide)
      have e3 := hne 3 (by decide)
      simp only [show ((0 : Fin 4) : Nat) = 0 from rfl, show ((1 : Fin 4) : Nat) = 1 from rfl, show ((2 : Fin 4) : Nat) = 2 from rfl, show ((3 : Fin 4) : Nat) = 3 from rfl] at e0 e1 e2 e3
      simp [cmp4, e0, e1, e2, e3]
    rw [hz]
    refine ⟨.int .i64 0, ?_, rfl, (hB.setCell (p := ⟨w.heap.size + 2, 0, none⟩) (by simp) _).trans (belowK_b (w := w) (Nat.le_refl _) _ D _ _ (by omega) hK' rfl rfl)⟩
    simp [results, Try.results71, go_sem, hc5]
  case stop =>
    rintro D c pre W hD ⟨k, hk, rfl⟩ ⟨⟨rfl, ini, last, e1, e2, e3, hcr⟩, hB⟩ hK
    gi_wp2
    refine ⟨by simp, .inl ⟨_, _, rfl, run_takeDeferred hK, ?_⟩⟩
    have hc5 := cell_kept hcr (grownBy_putObj' _ D (.deferred none)) (fun r e => by cases e; exact ⟨_, hK, rfl⟩)
    have hz : cmp4 x y 4 = cmpI (x last) (y last) := by
      rcases fins_last hk e1 with ⟨rfl, rfl⟩ | ⟨rfl, rfl⟩ | ⟨rfl, rfl⟩ | ⟨rfl, rfl⟩
      · simp only [show ((0 : Fin 4) : Nat) = 0 from rfl] at e3 ⊢
        simp [cmp4, e3]
      · have g0 := e2 0 (by decide)
        simp only [show ((0 : Fin 4) : Nat) = 0 from rfl, show ((1 : Fin 4) : Nat) = 1 from rfl] at e3 g0 ⊢
        simp [cmp4, e3, g0]
      · have g0 := e2 0 (by decide)
        have g1 := e2 1 (by decide)
        simp only [show ((0 : Fin 4) : Nat) = 0 from rfl, show ((1 : Fin 4) : Nat) = 1 from rfl, show ((2 : Fin 4) : Nat) = 2 from rfl] at e3 g0 g1 ⊢
        simp [cmp4, e3, g0, g1]
      · have g0 := e2 0 (by decide)
        have g1 := e2 1 (by decide)
        have g2 := e2 2 (by decide)
        simp only [show ((0 : Fin 4) : Nat) = 0 from rfl, show ((1 : Fin 4) : Nat) = 1 from rfl, show ((2 : Fin 4) : Nat) = 2 from rfl, show ((3 : Fin 4) : Nat) = 3 from rfl] at e3 g0 g1 g2 ⊢
        simp [cmp4, g0, g1, g2]
    rw [hz]
    refine ⟨.int .i64 (cmpI (x last) (y last)), ?_, rfl, hB.trans (belowK_b (w := w) (Nat.le_refl _) W D _ _ (by omega) hK rfl rfl)⟩
    simp [results, Try.results71, go_sem, hc5]

end Go.Proofs.Ytmjdmhelmgcanaa

/- num.Cmp in natural numbers. -/
namespace Go.Proofs.Ytmjdmhelmgcanaa
open Go.RowKit Go.Shelf

def cmpN (x y : Nat) : Int := if x < y then -1 else if y < x then 1 else 0

theorem cmpI_nat (a b : Nat) : cmpI (a : Int) (b : Int) = cmpN a b := by
  unfold cmpI cmpN
  simp only [Int.ofNat_lt]

theorem cmpN_lt {a b : Nat} (h : a < b) : cmpN a b = -1 := by simp [cmpN, h]
theorem cmpN_gt {a b : Nat} (h : b < a) : cmpN a b = 1 := by have : ¬ a < b := by omega
                                                             simp [cmpN, h, this]
theorem cmpN_eq (a : Nat) : cmpN a a = 0 := by simp [cmpN]

theorem cmp_calls (x y : Nat) (hx : x < TOP) (hy : y < TOP) (w : World) :
    Calls Try.prog 71 #[V x, V y] w fun e w' => Below w.heap.size w w' ∧ e = .returned (.int .i64 (cmpN x y)) := by
  obtain ⟨a0, a1, a2, a3, hv, ha0, ha1, ha2, ha3, hxe⟩ := V_open hx
  obtain ⟨b0, b1, b2, b3, hu, hb0, hb1, hb2, hb3, hye⟩ := V_open hy
  have hc : cmp4 (fun k => match k with | 0 => (a3 : Int) | 1 => a2 | 2 => a1 | _ => a0) (fun k => match k with | 0 => (b3 : Int) | 1 => b2 | 2 => b1 | _ => b0) 4 = cmpN x y := by
    simp only [cmp4, cmpI_nat, if_true]
    rw [hxe, hye]
    unfold mk4
    rcases Nat.lt_trichotomy a3 b3 with h3 | h3 | h3
    · rw [cmpN_lt h3]; simp; rw [cmpN_lt (by omega)]
    · subst h3
      rw [cmpN_eq]
      simp only [if_true]
      rcases Nat.lt_trichotomy a2 b2 with h2 | h2 | h2
      · rw [cmpN_lt h2]; simp; rw [cmpN_lt (by omega)]
      · subst h2
        rw [cmpN_eq]
        simp only [if_true]
        rcases Nat.lt_trichotomy a1 b1 with h1 | h1 | h1
        · rw [cmpN_lt h1]; simp; rw [cmpN_lt (by omega)]
        · subst h1
          rw [cmpN_eq]
          simp only [if_true]
          rcases Nat.lt_trichotomy a0 b0 with h0 | h0 | h0
          · rw [cmpN_lt h0, cmpN_lt (by omega)]
          · subst h0
            rw [cmpN_eq, cmpN_eq]
          · rw [cmpN_gt h0, cmpN_gt (by omega)]
        · rw [cmpN_gt h1]; simp; rw [cmpN_gt (by omega)]
      · rw [cmpN_gt h2]; simp; rw [cmpN_gt (by omega)]
    · rw [cmpN_gt h3]; simp; rw [cmpN_gt (by omega)]
  rw [hv, hu]
  have := (callsIn_wide (n := 9)).1 (cmp_in _ 9 trivial trivial trivial trivial trivial rfl (by omega) (fun k => match k with | 0 => (a3 : Int) | 1 => a2 | 2 => a1 | _ => a0) (fun k => match k with | 0 => (b3 : Int) | 1 => b2 | 2 => b1 | _ => b0) w)
  rw [hc] at this
  exact this.mono fun e w' h => ⟨h.2, h.1⟩

end Go.Proofs.Ytmjdmhelmgcanaa

/- What calls come to: sums and differences. -/
namespace Go.Proofs.Ytmjdmhelmgcanaa
open Go.RowKit

def noName : At Kd → Prop
  | .ptr _ _ => False
  | .obj _ _ => False
  | _ => True

theorem den_noName {v : SV Kd} (h : v.all noName) (ρ ρ' : Env) : v.den ρ' = v.den ρ :=
  SV.den_congr (dom := fun _ => false) (fun _ h => by cases h) (fun _ h => by cases h) (SV.all_mono (fun a ha => by cases a <;> simp_all [noName, At.inD]) h)

/-- a contract of a call that hands back no thing -/
def pcon (k : PCon) : Con := fun args => (k args).map fun l => l.map fun p => ⟨p.1, fun _ => p.2⟩

theorem pcon_ok {f : Nat} (hcall : ∀ args w, (callFunc f args).run Try.prog w = .ok (.enter f args) w) {k : PCon}
    (h : ∀ args l, k args = some l → ∀ p ∈ l, p.2.all noName ∧ (p.1 → ∀ ρ w nt, (∀ s ∈ args, s.all (ArgOK (ctx [] nt) ρ w)) →
      p.2.all AtOK0 ∧ Calls Try.prog f (args.map (SV.den ρ)).toArray w fun e w' => Below w.heap.size w w' ∧ e = .returned (p.2.den ρ))) : ConOK f (pcon k) := by
  intro args outs ho i oc hi
  obtain ⟨l, hl, rfl⟩ := Option.map_eq_some_iff.1 ho
  rw [List.getElem?_map] at hi
  obtain ⟨p, hp, rfl⟩ := Option.map_eq_some_iff.1 hi
  obtain ⟨h1, h2⟩ := h args l hl p (List.mem_of_getElem? hp)
  refine ⟨fun d => SV.all_mono (fun a ha => by cases a <;> simp_all [noName, At.inD1]) h1, fun hc ρ w d nt ha _ => ⟨hcall _ _, ?_⟩⟩
  obtain ⟨h3, h4⟩ := h2 hc ρ w nt ha
  refine h4.mono ?_
  rintro e w' ⟨hb, rfl⟩
  refine ⟨hb, undef, congrArg Ending.returned (den_noName h1 { ρ with v := upd ρ.v d undef } ρ), SV.all_mono (fun a ha => by cases a <;> simp_all [AtOK0, RetOK]) h3⟩

/-- an evaluated function -/
theorem ev {tab : List (Nat × Con)} (ht : TabOK tab) {f : FuncId} {fn : Func} (hf : Try.prog.funcs[f]? = some fn) {args : List (SV Kd)} {orc : Nat → Nat} {cs : List Prop} {v : SV Kd}
    (he : evalF (ctx tab fn.ntmps) orc fn args = some (cs, v)) (hc : conj cs) (hargs : ∀ s ∈ args, s.all AtOK0) (hv : v.all noName) (ρ : Env) (w : World) :
    Calls Try.prog f (args.map (SV.den ρ)).toArray w fun e w' => Below w.heap.size w w' ∧ e = .returned (v.den ρ) :=
  (fn_sound (ctx_ok ht _) (ctx_d ht _) mixed hf rfl he hc ρ w fun s hs => SV.all_mono (fun a ha => by cases a <;> simp_all [AtOK0, InOK]) (hargs s hs)).mono
    fun e w' ⟨hb, ρ', h⟩ => ⟨hb, by rw [h, den_noName hv ρ]⟩

/-- the answers 'less', 'the same', 'more' and the like, by the path: a list of slots, each with the way that is taken there -/
def way : List (Nat × Nat) → Nat → Nat
  | [], _ => 0
  | (s, k) :: r, i => bif Nat.beq i s then k else way r i

abbrev N (x : Nat) : SV Kd := .one [.big 4 x]
abbrev E (n : Int) : List (At Kd) := [.lit .i64 n]
abbrev B (b : Bool) : List (At Kd) := [.bool b]
abbrev M (x : Nat) : List (At Kd) := [.big 4 x]

theorem V_den (x : Nat) (ρ : Env) : denL ρ (M x) = V x := den_num ρ x
theorem N_den (x : Nat) (ρ : Env) : (N x).den ρ = V x := den_num ρ x
theorem E_den (n : Int) (ρ : Env) : denL ρ (E n) = .int .i64 n := rfl
theorem B_den (b : Bool) (ρ : Env) : denL ρ (B b) = .bool b := rfl

theorem bigArg {nt : Nat} {ρ : Env} {w : World} {x : Nat} (h : SV.all (ArgOK (ctx [] nt) ρ w) (N x)) : x < TOP := by
  rw [← pw4]; exact h (.big 4 x) (by simp)
theorem N_ok {x : Nat} (h : x < TOP) : (N x).all AtOK0 := by intro a ha; simp only [List.mem_singleton] at ha; subst ha; show x < pw 4; rw [pw4]; exact h

/-- one, two, three, four numbers in -/
def k1 (g : Nat → List (Prop × SV Kd)) : PCon
  | [.one [.big 4 x]] => some (g x)
  | _ => none
def k2 (g : Nat → Nat → List (Prop × SV Kd)) : PCon
  | [.one [.big 4 x], .one [.big 4 y]] => some (g x y)
  | _ => none
def k3 (g : Nat → Nat → Nat → List (Prop × SV Kd)) : PCon
  | [.one [.big 4 x], .one [.big 4 y], .one [.big 4 z]] => some (g x y z)
  | _ => none
def k4 (g : Nat → Nat → Nat → Nat → List (Prop × SV Kd)) : PCon
  | [.one [.big 4 x], .one [.big 4 y], .one [.big 4 z], .one [.big 4 u]] => some (g x y z u)
  | _ => none

/-- what a contract of numbers owes: each way, if it is taken, has a value in range, and the call ends so -/
def Owes (f : Nat) (args : List (SV Kd)) (l : List (Prop × SV Kd)) : Prop :=
  ∀ p ∈ l, p.2.all noName ∧ (p.1 → p.2.all AtOK0 ∧ ∀ ρ w, Calls Try.prog f (args.map (SV.den ρ)).toArray w fun e w' => Below w.heap.size w w' ∧ e = .returned (p.2.den ρ))

theorem k1_ok {f : Nat} (hcall : ∀ args w, (callFunc f args).run Try.prog w = .ok (.enter f args) w) {g : Nat → List (Prop × SV Kd)} (hn : ∀ x, ∀ p ∈ g x, p.2.all noName)
    (h : ∀ x, x < TOP → Owes f [N x] (g x)) : ConOK f (pcon (k1 g)) := by
  refine pcon_ok hcall fun args l hl p hp => ?_
  unfold k1 at hl
  split at hl
  · rename_i x
    simp only [Option.some.injEq] at hl
    subst hl
    refine ⟨hn x p hp, fun hc ρ w nt ha => ?_⟩
    obtain ⟨h1, h2⟩ := (h x (bigArg (ha _ (by simp)))  p hp).2 hc
    exact ⟨h1, h2 ρ w⟩
  · cases hl
theorem k2_ok {f : Nat} (hcall : ∀ args w, (callFunc f args).run Try.prog w = .ok (.enter f args) w) {g : Nat → Nat → List (Prop × SV Kd)} (hn : ∀ x y, ∀ p ∈ g x y, p.2.all noName)
    (h : ∀ x y, x < TOP → y < TOP → Owes f [N x, N y] (g x y)) : ConOK f (pcon (k2 g)) := by
  refine pcon_ok hcall fun args l hl p hp => ?_
  unfold k2 at hl
  split at hl
  · rename_i x y
    simp only [Option.some.injEq] at hl
    subst hl
    refine ⟨hn x y p hp, fun hc ρ w nt ha => ?_⟩
    obtain ⟨h1, h2⟩ := (h x y (bigArg (ha _ (by simp))) (bigArg (ha _ (by simp))) p hp).2 hc
    exact ⟨h1, h2 ρ w⟩
  · cases hl
theorem k3_ok {f : Nat} (hcall : ∀ args w, (callFunc f args).run Try.prog w = .ok (.enter f args) w) {g : Nat → Nat → Nat → List (Prop × SV Kd)} (hn : ∀ x y z, ∀ p ∈ g x y z, p.2.all noName)
    (h : ∀ x y z, x < TOP → y < TOP → z < TOP → Owes f [N x, N y, N z] (g x y z)) : ConOK f (pcon (k3 g)) := by
  refine pcon_ok hcall fun args l hl p hp => ?_
  unfold k3 at hl
  split at hl
  · rename_i x y z
    simp only [Option.some.injEq] at hl
    subst hl
    refine ⟨hn x y z p hp, fun hc ρ w nt ha => ?_⟩
    obtain ⟨h1, h2⟩ := (h x y z (bigArg (ha _ (by simp))) (bigArg (ha _ (by simp))) (bigArg (ha _ (by simp))) p hp).2 hc
    exact ⟨h1, h2 ρ w⟩
  · cases hl

theorem all_num {x : Nat} {l : List (List (At Kd))} (h : x < TOP) (hl : (SV.tup l).all AtOK0) : (SV.tup (M x :: l)).all AtOK0 := by
  intro m hm
  rcases List.mem_cons.1 hm with rfl | hm
  · exact N_ok h
  · exact hl m hm

theorem add_con : ConOK 79 (pcon (k2 fun x y => [(x + y < TOP, .tup [M (x + y), E 0]), (TOP ≤ x + y, .tup [M 0, E 2])])) := by
  refine k2_ok (fun a w => Try.call79 a w) (by simp [SV.all, noName]) fun x y hx hy p hp => ?_
  simp only [List.mem_cons, List.not_mem_nil, or_false] at hp
  rcases hp with rfl | rfl
  · refine ⟨by simp [SV.all, noName], fun hc => ⟨all_num hc (by simp [SV.all, AtOK0]), fun ρ w => ?_⟩⟩
    simp only [List.map_cons, List.map_nil, N_den]
    refine (add_calls x y hx hy w).mono ?_
    rintro e w' ⟨rfl, hb⟩
    exact ⟨hb, by simp only [addV, if_pos hc, SV.den, List.map_cons, List.map_nil, V_den, E_den]⟩
  · refine ⟨by simp [SV.all, noName], fun hc => ⟨all_num top_pos (by simp [SV.all, AtOK0]), fun ρ w => ?_⟩⟩
    simp only [List.map_cons, List.map_nil, N_den]
    refine (add_calls x y hx hy w).mono ?_
    rintro e w' ⟨rfl, hb⟩
    have hn : ¬ x + y < TOP := Nat.not_lt.2 hc
    exact ⟨hb, by simp only [addV, if_neg hn, SV.den, List.map_cons, List.map_nil, V_den, E_den]⟩

theorem sub_con : ConOK 107 (pcon (k2 fun x y => [(y ≤ x, .tup [M (x - y), B false]), (x < y, .tup [M (x + TOP - y), B true])])) := by
  refine k2_ok (fun a w => Try.call107 a w) (by simp [SV.all, noName]) fun x y hx hy p hp => ?_
  simp only [List.mem_cons, List.not_mem_nil, or_false] at hp
  rcases hp with rfl | rfl
  · refine ⟨by simp [SV.all, noName], fun hc => ⟨all_num (by omega) (by simp [SV.all, AtOK0]), fun ρ w => ?_⟩⟩
    simp only [List.map_cons, List.map_nil, N_den]
    refine (sub_calls x y hx hy w).mono ?_
    rintro e w' ⟨rfl, hb⟩
    exact ⟨hb, by simp only [subV, if_pos hc, SV.den, List.map_cons, List.map_nil, V_den, B_den]⟩
  · refine ⟨by simp [SV.all, noName], fun hc => ⟨all_num (by omega) (by simp [SV.all, AtOK0]), fun ρ w => ?_⟩⟩
    simp only [List.map_cons, List.map_nil, N_den]
    refine (sub_calls x y hx hy w).mono ?_
    rintro e w' ⟨rfl, hb⟩
    have hn : ¬ y ≤ x := Nat.not_le.2 hc
    exact ⟨hb, by simp only [subV, if_neg hn, SV.den, List.map_cons, List.map_nil, V_den, B_den]⟩

theorem cmp_con : ConOK 71 (pcon (k2 fun x y => [(x < y, .one (E (-1))), (x = y, .one (E 0)), (y < x, .one (E 1))])) := by
  refine k2_ok (fun a w => Try.call71 a w) (by simp [SV.all, noName]) fun x y hx hy p hp => ?_
  simp only [List.mem_cons, List.not_mem_nil, or_false] at hp
  rcases hp with rfl | rfl | rfl
  all_goals
    refine ⟨by simp [SV.all, noName], fun hc => ⟨by simp [SV.all, AtOK0], fun ρ w => ?_⟩⟩
    simp only [List.map_cons, List.map_nil, N_den]
    refine (cmp_calls x y hx hy w).mono ?_
    rintro e w' ⟨hb, rfl⟩
    refine ⟨hb, ?_⟩
  · simp only [cmpN_lt hc]; rfl
  · have hc' : x = y := hc
    subst hc'
    simp only [cmpN_eq]; rfl
  · simp only [cmpN_gt hc]; rfl

theorem TabOK.nil : TabOK [] := fun p hp => by cases hp
theorem TabOK.cons {f : Nat} {c : Con} {t : List (Nat × Con)} (h : ConOK f c) (ht : TabOK t) : TabOK ((f, c) :: t) := fun p hp => by
  rcases List.mem_cons.1 hp with rfl | hp
  · exact h
  · exact ht p hp

def tabA : List (Nat × Con) :=
  [(79, pcon (k2 fun x y => [(x + y < TOP, .tup [M (x + y), E 0]), (TOP ≤ x + y, .tup [M 0, E 2])])),
   (107, pcon (k2 fun x y => [(y ≤ x, .tup [M (x - y), B false]), (x < y, .tup [M (x + TOP - y), B true])])),
   (71, pcon (k2 fun x y => [(x < y, .one (E (-1))), (x = y, .one (E 0)), (y < x, .one (E 1))]))]
theorem tabA_ok : TabOK tabA := .cons add_con (.cons sub_con (.cons cmp_con .nil))

end Go.Proofs.Ytmjdmhelmgcanaa

/- The lift: arguments opened, and shut as they were. -/
namespace Go.Proofs.Ytmjdmhelmgcanaa
open Go.ChangeShapes Go.WideShapes Go.ChangeAt Go.RowKit

theorem lawOwn : ownKnob Try.prog.godebug = none := by kernel_rfl
theorem lawLaid : laidOutB Try.prog = true := by kernel_rfl

/-- a word's bounds -/
theorem wf_nat {n : Int} (h : (Lit.int .u64 n).wf = true) : ∃ k : Nat, k < 18446744073709551616 ∧ n = (k : Nat) := by
  simp only [Lit.wf, Bool.and_eq_true, decide_eq_true_eq] at h
  have h1 : IntKind.u64.min = 0 := rfl
  have h2 : IntKind.u64.max = 18446744073709551615 := rfl
  refine ⟨n.toNat, ?_, ?_⟩ <;> omega

theorem limbs_mk4 {a b c d : Nat} (ha : a < 18446744073709551616) (hb : b < 18446744073709551616) (hc : c < 18446744073709551616) (hd : d < 18446744073709551616) :
    limbs (mk4 a b c d) 4 = [.int .u64 a, .int .u64 b, .int .u64 c, .int .u64 d] := by
  have h := V_mk4 ha hb hc hd
  simp only [V, V4, Value.agg.injEq, Array.mk.injEq, List.cons.injEq, Value.int.injEq, true_and, and_true] at h
  simp [limbs, h]

/-- four cells of a number, read -/
theorem num_cells {H : Type} {enc : TypeId × Value → H} {W : World} {base : Nat} {spare : Nat → Bool} {held : Bool} {fuel : Nat} {c0 c1 c2 c3 : Value} {x : DataW H × List MemPlace}
    (h : DataW.trod enc Try.prog W base spare held fuel 28 [c0, c1, c2, c3] = some x) : ∃ n, n < TOP ∧ [c0, c1, c2, c3] = limbs n 4 := by
  obtain ⟨y0, y1, y2, y3, n, -, h0, h1, h2, h3⟩ := trod_array4 Try.underlying28 (by kernel_rfl) h
  obtain ⟨n0, e0, -, w0⟩ := DataW.trod_int Try.underlying26 h0
  obtain ⟨n1, e1, -, w1⟩ := DataW.trod_int Try.underlying26 h1
  obtain ⟨n2, e2, -, w2⟩ := DataW.trod_int Try.underlying26 h2
  obtain ⟨n3, e3, -, w3⟩ := DataW.trod_int Try.underlying26 h3
  obtain ⟨k0, b0, rfl⟩ := wf_nat w0
  obtain ⟨k1, b1, rfl⟩ := wf_nat w1
  obtain ⟨k2, b2, rfl⟩ := wf_nat w2
  obtain ⟨k3, b3, rfl⟩ := wf_nat w3
  simp only [List.cons.injEq, and_true] at e0 e1 e2 e3
  subst e0 e1 e2 e3
  exact ⟨_, mk4_lt b0 b1 b2 b3, (limbs_mk4 b0 b1 b2 b3).symm⟩

set_option maxRecDepth 100000 in
theorem open_num {H : Type} {enc : TypeId × Value → H} {W : World} {base : Nat} {spare : Nat → Bool} {held : Bool} {r : Reach} {b0 : Nat} {v : Value} {d : DataW H} {ps : List MemPlace}
    (hval : Value.okWide Try.prog W r b0 28 v) (hd : DataW.Trod enc Try.prog W base spare held 28 v d ps) : ∃ n, n < TOP ∧ v = V n := by
  simp only [Value.okWide, Try.underlying28] at hval
  obtain ⟨cs, rfl, hs, -⟩ := hval
  have hs4 : cs.size = 4 := hs.trans (by kernel_rfl)
  obtain ⟨c0, c1, c2, c3, rfl⟩ : ∃ c0 c1 c2 c3, cs = #[c0, c1, c2, c3] := by
    obtain ⟨l⟩ := cs
    match l, hs4 with
    | [c0, c1, c2, c3], _ => exact ⟨c0, c1, c2, c3, rfl⟩
  obtain ⟨fuel, hf⟩ := hd
  obtain ⟨n, hn, e⟩ := num_cells hf
  refine ⟨n, hn, ?_⟩
  rw [← den_num ⟨fun _ => 0, fun _ => undef⟩ n]
  simp only [SV.den, denL]
  rw [← e]

/-- a Hold as a value -/
def HV (a b : Nat) : Value := .agg (limbs a 4 ++ limbs b 4).toArray
theorem HV_den (a b : Nat) (ρ : Env) : (SV.one [At.big 4 a, At.big 4 b] : SV Kd).den ρ = HV a b := by
  simp [SV.den, denL, cellsL, At.cells, HV]

set_option maxRecDepth 100000 in
theorem open_hold {H : Type} {enc : TypeId × Value → H} {W : World} {base : Nat} {spare : Nat → Bool} {held : Bool} {r : Reach} {b0 : Nat} {v : Value} {d : DataW H} {ps : List MemPlace}
    (hval : Value.okWide Try.prog W r b0 41 v) (hd : DataW.Trod enc Try.prog W base spare held 41 v d ps) : ∃ a b, a < TOP ∧ b < TOP ∧ v = HV a b := by
  obtain ⟨cs, rfl, hs⟩ := okWide_struct Try.underlying41 hval
  have hs8 : cs.size = 8 := hs.trans (by kernel_rfl)
  obtain ⟨c0, c1, c2, c3, c4, c5, c6, c7, rfl⟩ : ∃ c0 c1 c2 c3 c4 c5 c6 c7, cs = #[c0, c1, c2, c3, c4, c5, c6, c7] := by
    obtain ⟨l⟩ := cs
    match l, hs8 with
    | [c0, c1, c2, c3, c4, c5, c6, c7], _ => exact ⟨c0, c1, c2, c3, c4, c5, c6, c7, rfl⟩
  obtain ⟨fuel, hf⟩ := hd
  obtain ⟨y0, y1, n, -, -, h0, h1⟩ := trod_struct2 Try.underlying41 hf
  have e4 : Try.prog.cellsOf 28 = 4 := by kernel_rfl
  simp only [e4] at h0 h1
  obtain ⟨a, ha, ea⟩ := num_cells h0
  obtain ⟨b, hb, eb⟩ := num_cells h1
  exact ⟨a, b, ha, hb, by simp only [HV, ← ea, ← eb]; rfl⟩

/-- what was read reads as it did -/
theorem trodAll_below {H : Type} {enc : TypeId × Value → H} {W W' : World} (hb : Below W.heap.size W W') :
    ∀ {ts : List TypeId} {vs : List Value} {ds : List (DataW H)} {ps : List MemPlace}, (∀ t ∈ ts, Try.prog.readableRec t = true ∧ t < Try.prog.types.size) →
      DataW.TrodAll enc Try.prog W 0 (fun _ => true) true ts vs ds ps → DataW.TrodAll enc Try.prog W' 0 (fun b => decide (b < W.heap.size)) true ts vs ds ps
  | [], _, _, _, _, h => by
    obtain ⟨rfl, rfl, rfl⟩ := trodAll_nil h
    exact trodAll_mk0
  | t :: ts, _, _, _, ht, h => by
    obtain ⟨v, vs, d, ds, p, q, rfl, rfl, rfl, h0, r⟩ := trodAll_cons h
    have hlt : ∀ x ∈ p, x.block < W.heap.size := by obtain ⟨m, hm⟩ := h0; exact DataW.trod_lt m _ _ _ hm
    exact trodAll_cons_mk (Below.trod lawLaid (ht t (by simp)).1 (ht t (by simp)).2 h0 hb hlt) (trodAll_below hb (fun u hu => ht u (by simp [hu])) r)

end Go.Proofs.Ytmjdmhelmgcanaa
