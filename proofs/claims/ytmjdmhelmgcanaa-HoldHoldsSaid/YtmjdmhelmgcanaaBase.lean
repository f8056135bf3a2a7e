/- Numbers of 256 bits as the program holds them (four parts of 64 bits), and as natural numbers: plain arithmetic, and the value of a number in memory. -/
import Derived.Test.YtmjdmhelmgcanaaProg
import Derived.WalkKit
import Derived.WalkSpells
namespace Go.Proofs.Ytmjdmhelmgcanaa
open Go.RowKit

/-- 2^256 -/
def TOP : Nat := 115792089237316195423570985008687907853269984665640564039457584007913129639936
theorem top_eq : TOP = 115792089237316195423570985008687907853269984665640564039457584007913129639936 := rfl
theorem top_pos : 0 < TOP := by rw [top_eq]; omega

/-- a number's i-th part of 64 bits -/
def lm (x i : Nat) : Nat := x / 18446744073709551616 ^ i % 18446744073709551616
/-- the number that four parts are -/
def mk4 (a b c d : Nat) : Nat := a + 18446744073709551616 * b + 340282366920938463463374607431768211456 * c + 6277101735386680763835789423207666416102355444464034512896 * d

/-- four parts as a value -/
def V4 (a b c d : Nat) : Value := .agg #[.int .u64 a, .int .u64 b, .int .u64 c, .int .u64 d]
/-- a number as a value -/
def V (x : Nat) : Value := V4 (lm x 0) (lm x 1) (lm x 2) (lm x 3)

theorem lm_lt (x i : Nat) : lm x i < 18446744073709551616 := Nat.mod_lt _ (by omega)

theorem lm0 (x : Nat) : lm x 0 = x % 18446744073709551616 := by unfold lm; simp
theorem lm1 (x : Nat) : lm x 1 = x / 18446744073709551616 % 18446744073709551616 := by unfold lm; simp
theorem lm2 (x : Nat) : lm x 2 = x / 340282366920938463463374607431768211456 % 18446744073709551616 := by unfold lm; rfl
theorem lm3 (x : Nat) : lm x 3 = x / 6277101735386680763835789423207666416102355444464034512896 % 18446744073709551616 := by unfold lm; rfl

theorem mk4_lm {x : Nat} (h : x < TOP) : mk4 (lm x 0) (lm x 1) (lm x 2) (lm x 3) = x := by
  rw [lm0, lm1, lm2, lm3]; unfold mk4; rw [top_eq] at h; omega

theorem V_mk4 {a b c d : Nat} (ha : a < 18446744073709551616) (hb : b < 18446744073709551616) (hc : c < 18446744073709551616) (hd : d < 18446744073709551616) :
    V (mk4 a b c d) = V4 a b c d := by
  unfold V
  have e0 : lm (mk4 a b c d) 0 = a := by rw [lm0]; unfold mk4; omega
  have e1 : lm (mk4 a b c d) 1 = b := by rw [lm1]; unfold mk4; omega
  have e2 : lm (mk4 a b c d) 2 = c := by rw [lm2]; unfold mk4; omega
  have e3 : lm (mk4 a b c d) 3 = d := by rw [lm3]; unfold mk4; omega
  rw [e0, e1, e2, e3]

theorem mk4_lt {a b c d : Nat} (ha : a < 18446744073709551616) (hb : b < 18446744073709551616) (hc : c < 18446744073709551616) (hd : d < 18446744073709551616) :
    mk4 a b c d < TOP := by unfold mk4; rw [top_eq]; omega

/-- the parts of a number, opened -/
theorem V_open {x : Nat} (h : x < TOP) : ∃ a b c d : Nat, V x = V4 a b c d ∧ a < 18446744073709551616 ∧ b < 18446744073709551616 ∧ c < 18446744073709551616 ∧ d < 18446744073709551616 ∧ x = mk4 a b c d :=
  ⟨_, _, _, _, rfl, lm_lt _ _, lm_lt _ _, lm_lt _ _, lm_lt _ _, (mk4_lm h).symm⟩

theorem V_inj {x y : Nat} (hx : x < TOP) (hy : y < TOP) (h : V x = V y) : x = y := by
  simp only [V, V4, Value.agg.injEq, Array.mk.injEq, List.cons.injEq, Value.int.injEq, true_and, Int.natCast_inj, and_true] at h
  rw [← mk4_lm hx, ← mk4_lm hy, h.1, h.2.1, h.2.2.1, h.2.2.2]

end Go.Proofs.Ytmjdmhelmgcanaa
