/- What calls come to: differences, the less of two. -/
import Derived.Test.YtmjdmhelmgcanaaDigG
namespace Go.Proofs.Ytmjdmhelmgcanaa
open Go.RowKit

def tabR : List (Nat × Con) :=
  (53, pcon (k2 fun x y => [(x + y < TOP, .tup [M (x + y), B true]), (TOP ≤ x + y, .tup [M 0, B false])])) ::
  (54, pcon (k2 fun x y => [(x < y, .one (E (-1))), (x = y, .one (E 0)), (y < x, .one (E 1))])) ::
  (55, pcon (k2 fun x y => [(True, .one (M (x - y)))])) ::
  (88, pcon (k1 fun x => [(x = 0, .one (B true)), (0 < x, .one (B false))])) :: tabA
theorem tabR_ok : TabOK tabR := .cons radd_con (.cons rcmp_con (.cons rrest_con (.cons zero_con tabA_ok)))

theorem Sub_con : ConOK 80 (pcon (k2 fun x y => [(y ≤ x, .tup [M (x - y), E 0]), (x < y, .tup [M 0, E 3])])) := by
  refine k2_ok (fun a w => Try.call80 a w) (by simp [SV.all, noName]) fun x y hx hy p hp => ?_
  simp only [List.mem_cons, List.not_mem_nil, or_false] at hp
  rcases hp with rfl | rfl
  · refine ⟨by simp [SV.all, noName], fun hc => ⟨by first | exact N_ok (by omega) | exact all_num (by omega) (by simp [SV.all, AtOK0]) | simp [SV.all, AtOK0], fun ρ w => ?_⟩⟩
    exact ev tabR_ok Try.func80 (orc := way []) (cs := [True, True, True, True, True, True, y ≤ x, True, True, True, True, True, True, True, True, True, True]) (by kernel_rfl) (by first | (simp only [conj, and_true]; done) | (simp only [conj, and_true, true_and]; repeat' apply And.intro) <;> first | assumption | omega) (by simp only [List.mem_cons, List.not_mem_nil, or_false]; rintro s (rfl | rfl) <;> first | exact N_ok (by assumption) | simp [SV.all, AtOK0]) (by simp [SV.all, noName]) ρ w
  · refine ⟨by simp [SV.all, noName], fun hc => ⟨by first | exact N_ok (by omega) | exact all_num (by omega) (by simp [SV.all, AtOK0]) | simp [SV.all, AtOK0], fun ρ w => ?_⟩⟩
    exact ev tabR_ok Try.func80 (orc := way [(11, 1)]) (cs := [True, True, True, True, True, True, x < y, True, True, True, True, True, True, True, True, True, True]) (by kernel_rfl) (by first | (simp only [conj, and_true]; done) | (simp only [conj, and_true, true_and]; repeat' apply And.intro) <;> first | assumption | omega) (by simp only [List.mem_cons, List.not_mem_nil, or_false]; rintro s (rfl | rfl) <;> first | exact N_ok (by assumption) | simp [SV.all, AtOK0]) (by simp [SV.all, noName]) ρ w

def t80 : List (Nat × Con) := (80, pcon (k2 fun x y => [(y ≤ x, .tup [M (x - y), E 0]), (x < y, .tup [M 0, E 3])])) :: tabR
theorem t80_ok : TabOK t80 := .cons Sub_con tabR_ok

theorem Rest_con : ConOK 86 (pcon (k2 fun x y => [(True, N (x - y))])) := by
  refine k2_ok (fun a w => Try.call86 a w) (by simp [SV.all, noName]) fun x y hx hy p hp => ?_
  simp only [List.mem_cons, List.not_mem_nil, or_false] at hp
  subst hp
  · refine ⟨by simp [SV.all, noName], fun hc => ⟨by first | exact N_ok (by omega) | exact all_num (by omega) (by simp [SV.all, AtOK0]) | simp [SV.all, AtOK0], fun ρ w => ?_⟩⟩
    rcases Nat.lt_or_ge x y with h | h
    · rw [show x - y = 0 by omega]
      exact ev t80_ok Try.func86 (orc := way [(10, 1)]) (cs := [True, True, True, True, True, x < y, True, True, True, True, True, True, True, True]) (by kernel_rfl) (by first | (simp only [conj, and_true]; done) | (simp only [conj, and_true, true_and]; repeat' apply And.intro) <;> first | assumption | omega) (by simp only [List.mem_cons, List.not_mem_nil, or_false]; rintro s (rfl | rfl) <;> first | exact N_ok (by assumption) | simp [SV.all, AtOK0]) (by simp [SV.all, noName]) ρ w
    · exact ev t80_ok Try.func86 (orc := way []) (cs := [True, True, True, True, True, y ≤ x, True, True, True, True, True, True, True, True]) (by kernel_rfl) (by first | (simp only [conj, and_true]; done) | (simp only [conj, and_true, true_and]; repeat' apply And.intro) <;> first | assumption | omega) (by simp only [List.mem_cons, List.not_mem_nil, or_false]; rintro s (rfl | rfl) <;> first | exact N_ok (by assumption) | simp [SV.all, AtOK0]) (by simp [SV.all, noName]) ρ w

def t86 : List (Nat × Con) := (86, pcon (k2 fun x y => [(True, N (x - y))])) :: t80
theorem t86_ok : TabOK t86 := .cons Rest_con t80_ok

theorem Least_con : ConOK 87 (pcon (k2 fun x y => [(True, N (min x y))])) := by
  refine k2_ok (fun a w => Try.call87 a w) (by simp [SV.all, noName]) fun x y hx hy p hp => ?_
  simp only [List.mem_cons, List.not_mem_nil, or_false] at hp
  subst hp
  · refine ⟨by simp [SV.all, noName], fun hc => ⟨by first | exact N_ok (by omega) | exact all_num (by omega) (by simp [SV.all, AtOK0]) | simp [SV.all, AtOK0], fun ρ w => ?_⟩⟩
    rcases Nat.lt_trichotomy x y with h | h | h
    · rw [Nat.min_eq_left (by omega)]
      exact ev t86_ok Try.func87 (orc := way []) (cs := [True, True, True, True, True, x < y, True, True, True]) (by kernel_rfl) (by first | (simp only [conj, and_true]; done) | (simp only [conj, and_true, true_and]; repeat' apply And.intro) <;> first | assumption | omega) (by simp only [List.mem_cons, List.not_mem_nil, or_false]; rintro s (rfl | rfl) <;> first | exact N_ok (by assumption) | simp [SV.all, AtOK0]) (by simp [SV.all, noName]) ρ w
    · rw [Nat.min_eq_right (by omega)]
      exact ev t86_ok Try.func87 (orc := way [(7, 1)]) (cs := [True, True, True, True, True, x = y, True, True, True]) (by kernel_rfl) (by first | (simp only [conj, and_true]; done) | (simp only [conj, and_true, true_and]; repeat' apply And.intro) <;> first | assumption | omega) (by simp only [List.mem_cons, List.not_mem_nil, or_false]; rintro s (rfl | rfl) <;> first | exact N_ok (by assumption) | simp [SV.all, AtOK0]) (by simp [SV.all, noName]) ρ w
    · rw [Nat.min_eq_right (by omega)]
      exact ev t86_ok Try.func87 (orc := way [(7, 2)]) (cs := [True, True, True, True, True, y < x, True, True, True]) (by kernel_rfl) (by first | (simp only [conj, and_true]; done) | (simp only [conj, and_true, true_and]; repeat' apply And.intro) <;> first | assumption | omega) (by simp only [List.mem_cons, List.not_mem_nil, or_false]; rintro s (rfl | rfl) <;> first | exact N_ok (by assumption) | simp [SV.all, AtOK0]) (by simp [SV.all, noName]) ρ w

def t87 : List (Nat × Con) := (87, pcon (k2 fun x y => [(True, N (min x y))])) :: t86
theorem t87_ok : TabOK t87 := .cons Least_con t86_ok

theorem RLeast_con : ConOK 56 (pcon (k2 fun x y => [(True, N (min x y))])) := by
  refine k2_ok (fun a w => Try.call56 a w) (by simp [SV.all, noName]) fun x y hx hy p hp => ?_
  simp only [List.mem_cons, List.not_mem_nil, or_false] at hp
  subst hp
  · refine ⟨by simp [SV.all, noName], fun hc => ⟨by first | exact N_ok (by omega) | exact all_num (by omega) (by simp [SV.all, AtOK0]) | simp [SV.all, AtOK0], fun ρ w => ?_⟩⟩
    rcases Nat.lt_trichotomy x y with h | h | h
    · rw [Nat.min_eq_left (by omega)]
      exact ev t87_ok Try.func56 (orc := way []) (cs := [True, True, True, True, True, x < y, True, True, True]) (by kernel_rfl) (by first | (simp only [conj, and_true]; done) | (simp only [conj, and_true, true_and]; repeat' apply And.intro) <;> first | assumption | omega) (by simp only [List.mem_cons, List.not_mem_nil, or_false]; rintro s (rfl | rfl) <;> first | exact N_ok (by assumption) | simp [SV.all, AtOK0]) (by simp [SV.all, noName]) ρ w
    · rw [Nat.min_eq_left (by omega)]
      exact ev t87_ok Try.func56 (orc := way [(7, 1)]) (cs := [True, True, True, True, True, x = y, True, True, True]) (by kernel_rfl) (by first | (simp only [conj, and_true]; done) | (simp only [conj, and_true, true_and]; repeat' apply And.intro) <;> first | assumption | omega) (by simp only [List.mem_cons, List.not_mem_nil, or_false]; rintro s (rfl | rfl) <;> first | exact N_ok (by assumption) | simp [SV.all, AtOK0]) (by simp [SV.all, noName]) ρ w
    · rw [Nat.min_eq_right (by omega)]
      exact ev t87_ok Try.func56 (orc := way [(7, 2)]) (cs := [True, True, True, True, True, y < x, True, True, True]) (by kernel_rfl) (by first | (simp only [conj, and_true]; done) | (simp only [conj, and_true, true_and]; repeat' apply And.intro) <;> first | assumption | omega) (by simp only [List.mem_cons, List.not_mem_nil, or_false]; rintro s (rfl | rfl) <;> first | exact N_ok (by assumption) | simp [SV.all, AtOK0]) (by simp [SV.all, noName]) ρ w

def t56 : List (Nat × Con) := (56, pcon (k2 fun x y => [(True, N (min x y))])) :: t87
theorem t56_ok : TabOK t56 := .cons RLeast_con t87_ok

end Go.Proofs.Ytmjdmhelmgcanaa
