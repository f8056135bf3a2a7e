/- num.Add and num.sub: what they answer, in natural numbers. -/
import Derived.Test.YtmjdmhelmgcanaaBase
import Derived.Laws.Externs
namespace Go.Proofs.Ytmjdmhelmgcanaa
open Go.RowKit

theorem add64 (x y c : Nat) (hc : c ≤ 1) (w : World) :
    (callFunc 106 #[.int .u64 x, .int .u64 y, .int .u64 c]).run Try.prog w =
      .ok (.value (.tuple #[.int .u64 (((x + y + c) % 18446744073709551616 : Nat) : Int), .int .u64 (((x + y + c) / 18446744073709551616 : Nat) : Int)])) w := by
  rw [run_callFunc_extern Try.func106 (by kernel_rfl) (by kernel_rfl) (by kernel_rfl) (e := add64Entry) (by kernel_rfl), run_add64 x y c (by omega) (by omega) (by omega) (by omega)]
  simp only [Result.andThen]
  congr 5 <;> omega

/-- the model's row for Sub64 -/
def subEntry : Array Value → Sem Value := fun args => do
  let (x, y, b) ← Extern.MathBitsCarry.three "Sub64" args
  pure (Extern.MathBitsCarry.pair ((x + Extern.MathBitsCarry.m64 - y - b) % Extern.MathBitsCarry.m64) (if x < y + b then 1 else 0))

theorem run_subEntry (x y b : Nat) (hb : b ≤ 1) (w : World) :
    (subEntry #[.int .u64 x, .int .u64 y, .int .u64 b]).run Try.prog w =
      .ok (.tuple #[.int .u64 (((x + 18446744073709551616 - y - b) % 18446744073709551616 : Nat) : Int), .int .u64 ((if x < y + b then 1 else 0 : Nat) : Int)]) w := by
  have h : b = 0 ∨ b = 1 := by omega
  rcases h with rfl | rfl <;> rfl

theorem sub64 (x y b : Nat) (hb : b ≤ 1) (w : World) :
    (callFunc 117 #[.int .u64 x, .int .u64 y, .int .u64 b]).run Try.prog w =
      .ok (.value (.tuple #[.int .u64 (((x + 18446744073709551616 - y - b) % 18446744073709551616 : Nat) : Int), .int .u64 ((if x < y + b then 1 else 0 : Nat) : Int)])) w := by
  rw [run_callFunc_extern Try.func117 (by kernel_rfl) (by kernel_rfl) (by kernel_rfl) (e := subEntry) (by kernel_rfl), run_subEntry x y b hb]
  rfl

/-- one step of a sum -/
theorem add64_ex {x y c : Nat} (hx : x < 18446744073709551616) (hy : y < 18446744073709551616) (hc : c ≤ 1) :
    ∃ s k : Nat, (∀ w, (callFunc 106 #[.int .u64 x, .int .u64 y, .int .u64 c]).run Try.prog w = .ok (.value (.tuple #[.int .u64 s, .int .u64 k])) w) ∧
      s < 18446744073709551616 ∧ k ≤ 1 ∧ x + y + c = s + 18446744073709551616 * k :=
  ⟨_, _, add64 x y c hc, Nat.mod_lt _ (by omega), by omega, by omega⟩

theorem sub64_ex {x y c : Nat} (hx : x < 18446744073709551616) (hy : y < 18446744073709551616) (hc : c ≤ 1) :
    ∃ s k : Nat, (∀ w, (callFunc 117 #[.int .u64 x, .int .u64 y, .int .u64 c]).run Try.prog w = .ok (.value (.tuple #[.int .u64 s, .int .u64 k])) w) ∧
      s < 18446744073709551616 ∧ k ≤ 1 ∧ x + 18446744073709551616 * k = s + y + c := by
  refine ⟨_, _, sub64 x y c hc, Nat.mod_lt _ (by omega), by split <;> omega, ?_⟩
  split <;> omega

/-- what num.Add answers -/
def addV (x y : Nat) : Value := if x + y < TOP then .tuple #[V (x + y), .int .i64 0] else .tuple #[V 0, .int .i64 2]

set_option maxHeartbeats 1000000 in
theorem add_calls (x y : Nat) (hx : x < TOP) (hy : y < TOP) (w : World) :
    Calls Try.prog 79 #[V x, V y] w fun e w' => e = .returned (addV x y) ∧ Below w.heap.size w w' := by
  obtain ⟨a0, a1, a2, a3, hv, ha0, ha1, ha2, ha3, hxe⟩ := V_open hx
  obtain ⟨b0, b1, b2, b3, hu, hb0, hb1, hb2, hb3, hye⟩ := V_open hy
  obtain ⟨s0, c0, h0, hs0, hc0, e0⟩ := add64_ex ha0 hb0 (Nat.zero_le 1)
  obtain ⟨s1, c1, h1, hs1, hc1, e1⟩ := add64_ex ha1 hb1 hc0
  obtain ⟨s2, c2, h2, hs2, hc2, e2⟩ := add64_ex ha2 hb2 hc1
  obtain ⟨s3, c3, h3, hs3, hc3, e3⟩ := add64_ex ha3 hb3 hc2
  rw [hv, hu]
  by_cases hc : c3 = 0
  · have hf : addV x y = .tuple #[V4 s0 s1 s2 s3, .int .i64 0] := by
      have e : x + y = mk4 s0 s1 s2 s3 := by rw [hxe, hye]; unfold mk4; omega
      unfold addV
      rw [e, if_pos (mk4_lt hs0 hs1 hs2 hs3), V_mk4 hs0 hs1 hs2 hs3]
    rw [hf]
    have hn : ((c3 : Int) != 0) = false := by rw [hc]; rfl
    simp only [Int.natCast_zero] at h0
    unfold V4
    clear hv hu hxe hye e0 e1 e2 e3 hc hf ha0 ha1 ha2 ha3 hb0 hb1 hb2 hb3 hs0 hs1 hs2 hs3 hc0 hc1 hc2 hc3 hx hy
    go_enter Try.func79, Try.ntmps79
    go_wp2
    refine wp_loop_rounds 5 ?_
    rw [rounds_succ]
    go_wp2
    go_region
    go_wp2
    rw [rounds_succ]
    go_wp2
    go_region
    go_wp2
    rw [rounds_succ]
    go_wp2
    go_region
    go_wp2
    rw [rounds_succ]
    go_wp2
    go_region
    go_wp2
    rw [rounds_succ]
    go_wp2
    refine bodyPost_ret (v := .tuple #[.agg #[.int .u64 s0, .int .u64 s1, .int .u64 s2, .int .u64 s3], .int .i64 0]) (by simp [results, Try.results79, go_sem]) rfl ⟨rfl, ?_⟩
    repeat (first | exact Below.refl _ _ | refine Below.setCell ?_ (by simp) _ | refine Below.alloc ?_ (by simp <;> omega) _ | refine Below.drew ?_)
  · have hf : addV x y = .tuple #[V4 0 0 0 0, .int .i64 2] := by
      have e : x + y = mk4 s0 s1 s2 s3 + TOP := by rw [hxe, hye, top_eq]; unfold mk4; omega
      have h0 : V 0 = V4 0 0 0 0 := V_mk4 (a := 0) (b := 0) (c := 0) (d := 0) (by omega) (by omega) (by omega) (by omega)
      unfold addV
      rw [e, if_neg (by omega), h0]
    rw [hf]
    have hn : ((c3 : Int) != 0) = true := by rw [bne_iff_ne]; omega
    simp only [Int.natCast_zero] at h0
    unfold V4
    clear hv hu hxe hye e0 e1 e2 e3 hc hf ha0 ha1 ha2 ha3 hb0 hb1 hb2 hb3 hs0 hs1 hs2 hs3 hc0 hc1 hc2 hc3 hx hy
    go_enter Try.func79, Try.ntmps79
    go_wp2
    refine wp_loop_rounds 5 ?_
    rw [rounds_succ]
    go_wp2
    go_region
    go_wp2
    rw [rounds_succ]
    go_wp2
    go_region
    go_wp2
    rw [rounds_succ]
    go_wp2
    go_region
    go_wp2
    rw [rounds_succ]
    go_wp2
    go_region
    go_wp2
    rw [rounds_succ]
    go_wp2
    refine bodyPost_ret (v := .tuple #[.agg #[.int .u64 0, .int .u64 0, .int .u64 0, .int .u64 0], .int .i64 2]) (by simp [results, Try.results79, go_sem]) rfl ⟨rfl, ?_⟩
    repeat (first | exact Below.refl _ _ | refine Below.setCell ?_ (by simp) _ | refine Below.alloc ?_ (by simp <;> omega) _ | refine Below.drew ?_)

/-- what num.sub answers -/
def subV (x y : Nat) : Value := if y ≤ x then .tuple #[V (x - y), .bool false] else .tuple #[V (x + TOP - y), .bool true]

set_option maxHeartbeats 1000000 in
theorem sub_calls (x y : Nat) (hx : x < TOP) (hy : y < TOP) (w : World) :
    Calls Try.prog 107 #[V x, V y] w fun e w' => e = .returned (subV x y) ∧ Below w.heap.size w w' := by
  obtain ⟨a0, a1, a2, a3, hv, ha0, ha1, ha2, ha3, hxe⟩ := V_open hx
  obtain ⟨b0, b1, b2, b3, hu, hb0, hb1, hb2, hb3, hye⟩ := V_open hy
  obtain ⟨s0, c0, h0, hs0, hc0, e0⟩ := sub64_ex ha0 hb0 (Nat.zero_le 1)
  obtain ⟨s1, c1, h1, hs1, hc1, e1⟩ := sub64_ex ha1 hb1 hc0
  obtain ⟨s2, c2, h2, hs2, hc2, e2⟩ := sub64_ex ha2 hb2 hc1
  obtain ⟨s3, c3, h3, hs3, hc3, e3⟩ := sub64_ex ha3 hb3 hc2
  obtain ⟨q, hq⟩ : ∃ q : Bool, ((c3 : Int) != 0) = q := ⟨_, rfl⟩
  rw [hv, hu]
  have hf : subV x y = .tuple #[V4 s0 s1 s2 s3, .bool q] := by
    have hl := mk4_lt hs0 hs1 hs2 hs3
    unfold subV
    by_cases hc : c3 = 0
    · have e : x = mk4 s0 s1 s2 s3 + y := by rw [hxe, hye]; unfold mk4; omega
      have hq' : q = false := by rw [← hq, hc]; rfl
      rw [if_pos (by omega), hq', show x - y = mk4 s0 s1 s2 s3 by omega, V_mk4 hs0 hs1 hs2 hs3]
    · have e : x + TOP = mk4 s0 s1 s2 s3 + y := by rw [hxe, hye, top_eq]; unfold mk4; omega
      have hq' : q = true := by rw [← hq, bne_iff_ne]; omega
      rw [if_neg (by omega), hq', show x + TOP - y = mk4 s0 s1 s2 s3 by omega, V_mk4 hs0 hs1 hs2 hs3]
  rw [hf]
  simp only [Int.natCast_zero] at h0
  unfold V4
  clear hv hu hxe hye e0 e1 e2 e3 hf ha0 ha1 ha2 ha3 hb0 hb1 hb2 hb3 hs0 hs1 hs2 hs3 hc0 hc1 hc2 hc3 hx hy
  go_enter Try.func107, Try.ntmps107
  go_wp2
  refine wp_loop_rounds 5 ?_
  rw [rounds_succ]
  go_wp2
  go_region
  go_wp2
  rw [rounds_succ]
  go_wp2
  go_region
  go_wp2
  rw [rounds_succ]
  go_wp2
  go_region
  go_wp2
  rw [rounds_succ]
  go_wp2
  go_region
  go_wp2
  rw [rounds_succ]
  go_wp2
  refine bodyPost_ret (v := .tuple #[.agg #[.int .u64 s0, .int .u64 s1, .int .u64 s2, .int .u64 s3], .bool q]) (by simp [results, Try.results107, go_sem]) rfl ⟨rfl, ?_⟩
  repeat (first | exact Below.refl _ _ | refine Below.setCell ?_ (by simp) _ | refine Below.alloc ?_ (by simp <;> omega) _ | refine Below.drew ?_)

end Go.Proofs.Ytmjdmhelmgcanaa
