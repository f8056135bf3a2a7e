/- Joined out of smaller texts: Sh, ShL. -/
import Derived.Test.YtmjdmhelmgcanaaGI
/- share: Worth, Fewest, Part, Shares; the document's answers are the same. -/
namespace Go.Proofs.Ytmjdmhelmgcanaa
namespace M
open Go.RowKit
set_option linter.unusedSimpArgs false

/-- what n of b shares of a are worth -/
def wor (a b n : Nat) : Nat := if b = 0 then 0 else if b ≤ n then a else n * a / b
def worL (a b n : Nat) : List (Prop × Sv) := [(True, .one (N (wor a b n)))]
/-- the fewest shares that are worth c -/
def few (a b c : Nat) : Nat := if c = 0 then 0 else up (c * b) a
def fewL (a b c : Nat) : List (Prop × Sv) := [(c = 0 ∨ (c ≤ a ∧ 0 < b), .tup [N (few a b c), E 0]), (0 < c ∧ (a < c ∨ b = 0), .tup [N 0, E 3])]
/-- so many of the whole -/
def prt (a : Nat) (p : Int) : Nat := if 10000 ≤ p then a else a * p.toNat / 10000
def prtL (a : Nat) (p : Int) : List (Prop × Sv) := [(0 ≤ p ∧ p < 65536, .one (N (prt a p)))]
def prtK : PCon
  | [[.big 4 a], [.int .u16 p]] => some (prtL a p)
  | [[.big 4 a], [.lit .u16 p]] => some (prtL a p)
  | _ => none
/-- how many shares tokens make -/
def shaL (a b c : Nat) : List (Prop × Sv) := [(b = 0, .tup [N c, E 0]), (0 < b ∧ 0 < a ∧ c * b / a < TOP, .tup [N (c * b / a), E 0]), (0 < b ∧ 0 < a ∧ TOP ≤ c * b / a, .tup [N 0, E 2]), (0 < b ∧ a = 0, .tup [N 0, E 1])]
def tV1 : List Entry := ⟨63, 0, pcon (k3 worL)⟩ :: ⟨64, 0, pcon (k3 worL)⟩ :: tabU
def tV : List Entry := ⟨65, 0, pcon (k3 fewL)⟩ :: ⟨66, 0, pcon (k3 fewL)⟩ :: ⟨67, 0, pcon prtK⟩ :: ⟨68, 0, pcon prtK⟩ :: ⟨69, 0, pcon (k3 shaL)⟩ :: ⟨70, 0, pcon (k3 shaL)⟩ :: eNOf :: eSmall :: tV1
def tW : List Entry := ⟨62, 0, pcon (k0 [(True, .one (B true))])⟩ :: tV

theorem div_le_of {n a b : Nat} (h : n ≤ b) (hb : 0 < b) : n * a / b ≤ a := by
  have h1 : n * a ≤ b * a := Nat.mul_le_mul_right _ h
  have h2 := Nat.div_le_div_right (c := b) h1
  rwa [Nat.mul_div_cancel_left _ hb] at h2
theorem wor_le (a b n : Nat) : wor a b n ≤ a := by
  unfold wor
  split
  · omega
  · split
    · omega
    · exact div_le_of (by omega) (by omega)
theorem up_le {a b c : Nat} (h0 : 0 < c) (h : a ≤ b * c) : up a c ≤ b := by
  unfold up
  rw [Nat.div_le_iff_le_mul_add_pred h0]
  rw [Nat.mul_comm] at h
  omega
theorem few_le {a b c : Nat} (h : c = 0 ∨ (c ≤ a ∧ 0 < b)) : few a b c ≤ b := by
  unfold few
  split
  · omega
  · refine up_le (by omega) ?_
    rw [Nat.mul_comm b a]
    exact Nat.mul_le_mul_right _ (by omega)
theorem prt_le (a : Nat) {p : Int} (_ : 0 ≤ p) : prt a p ≤ a := by
  unfold prt
  split
  · omega
  · rw [Nat.mul_comm]; exact div_le_of (by omega) (by omega)

theorem wor_owes {a b n : Nat} (ha : a < TOP) (hb : b < TOP) (hn : n < TOP) :
    Owes 63 [N a, N b, N n] [(True, .one (N (wor a b n)))] := by
  have ht := top_eq
  have hw := wor_le a b n
  intro p0 hp0 hc
  simp only [List.mem_cons, List.not_mem_nil, or_false] at hp0
  subst hp0
  · have hc' : True := hc
    have hpl : (.one (N (wor a b n)) : Sv).all Av.plain := by ((first | refine tupP ?_ | refine oneP ?_) <;> first | (first | exact E_plain _ | exact B_plain _ | exact lit_plain _ _ | exact int_plain _ _ | exact N_plain (by omega) | exact N_plain2 (by omega) (by omega) | assumption) | ((repeat' (first | exact argsP_nil | refine argsP_cons ?_ ?_)) <;> (first | exact E_plain _ | exact B_plain _ | exact lit_plain _ _ | exact int_plain _ _ | exact N_plain (by omega) | exact N_plain2 (by omega) (by omega) | assumption)))
    refine ⟨hpl, pure_calls' (ctx_ok tabU_ok 28) Try.func63 (c := bodyOf Try.f63) rfl rfl (args := [N a, N b, N n]) (Nat.le_of_ble_eq_true (by kernel_rfl)) (by ((repeat' (first | exact argsP_nil | refine argsP_cons ?_ ?_)) <;> (first | exact E_plain _ | exact B_plain _ | exact lit_plain _ _ | exact int_plain _ _ | exact N_plain (by omega) | exact N_plain2 (by omega) (by omega) | assumption))) hpl (fun w0 => ?_)⟩
    have hs : b = 0 ∨ (0 < b ∧ b ≤ n) ∨ (0 < b ∧ n < b) := by omega
    rcases hs with h | h | h
    · skip
      rw [show wor a b n = 0 by unfold wor; rw [if_pos h]]
      exact goes_ret (ctx_ok tabU_ok 28) mixed rfl (orc := way []) (stops := []) (f := 3000) (k := [.code (bodyOf Try.f63)]) (o := .norm) (σ := (kn (argS 0 ([N a, N b, N n].map .one)) [])) (cs := [True, True, True, True, True, True, b = (0 : Nat), True, True, True]) (o' := .ret) (rs := Try.f63.results.toList) (v := (.one (N 0))) (H := ([] : List (Nat × Bk))) (by kernel_rfl) (.inr rfl) (by ((simp only [conj, and_true, true_and, and_self, cmp_lt0, cmp_le0, cmp_ge0, cmp_gt0, reduceCtorEq, not_false_eq_true]) <;> first | omega | (simp_all; done) | (simp_all; omega))) fun _ _ => rfl
    · skip
      rw [show wor a b n = a by unfold wor; rw [if_neg (by omega), if_pos h.2]]
      exact goes_ret (ctx_ok tabU_ok 28) mixed rfl (orc := way [(12, 1)]) (stops := []) (f := 3000) (k := [.code (bodyOf Try.f63)]) (o := .norm) (σ := (kn (argS 0 ([N a, N b, N n].map .one)) [])) (cs := [True, True, True, True, True, True, ¬b = (0 : Nat), True, True, True, True, (0 : Int) ≤ cmpN n b, True, True, True]) (o' := .ret) (rs := Try.f63.results.toList) (v := (.one (N a))) (H := ([] : List (Nat × Bk))) (by kernel_rfl) (.inr rfl) (by ((simp only [conj, and_true, true_and, and_self, cmp_lt0, cmp_le0, cmp_ge0, cmp_gt0, reduceCtorEq, not_false_eq_true]) <;> first | omega | (simp_all; done) | (simp_all; omega))) fun _ _ => rfl
    · skip
      have hd := div_le_of (n := n) (a := a) (by omega) h.1
      rw [show wor a b n = n * a / b by unfold wor; rw [if_neg (by omega), if_neg (by omega)]]
      exact goes_ret (ctx_ok tabU_ok 28) mixed rfl (orc := way [(12, 1), (18, 1)]) (stops := []) (f := 3000) (k := [.code (bodyOf Try.f63)]) (o := .norm) (σ := (kn (argS 0 ([N a, N b, N n].map .one)) [])) (cs := [True, True, True, True, True, True, ¬b = (0 : Nat), True, True, True, True, ¬(0 : Int) ≤ cmpN n b, True, True, True, True, (0 : Nat) < b ∧ n * a / b < TOP, True, True, True, True, True, True, True, True]) (o' := .ret) (rs := Try.f63.results.toList) (v := (.one (N (n * a / b)))) (H := ([] : List (Nat × Bk))) (by kernel_rfl) (.inr rfl) (by ((simp only [conj, and_true, true_and, and_self, cmp_lt0, cmp_le0, cmp_ge0, cmp_gt0, reduceCtorEq, not_false_eq_true]) <;> first | omega | (simp_all; done) | (simp_all; omega))) fun _ _ => rfl

theorem rwor_owes {a b n : Nat} (ha : a < TOP) (hb : b < TOP) (hn : n < TOP) :
    Owes 64 [N a, N b, N n] [(True, .one (N (wor a b n)))] := by
  have ht := top_eq
  have hw := wor_le a b n
  intro p0 hp0 hc
  simp only [List.mem_cons, List.not_mem_nil, or_false] at hp0
  subst hp0
  · have hc' : True := hc
    have hpl : (.one (N (wor a b n)) : Sv).all Av.plain := by ((first | refine tupP ?_ | refine oneP ?_) <;> first | (first | exact E_plain _ | exact B_plain _ | exact lit_plain _ _ | exact int_plain _ _ | exact N_plain (by omega) | exact N_plain2 (by omega) (by omega) | assumption) | ((repeat' (first | exact argsP_nil | refine argsP_cons ?_ ?_)) <;> (first | exact E_plain _ | exact B_plain _ | exact lit_plain _ _ | exact int_plain _ _ | exact N_plain (by omega) | exact N_plain2 (by omega) (by omega) | assumption)))
    refine ⟨hpl, pure_calls' (ctx_ok tabU_ok 25) Try.func64 (c := bodyOf Try.f64) rfl rfl (args := [N a, N b, N n]) (Nat.le_of_ble_eq_true (by kernel_rfl)) (by ((repeat' (first | exact argsP_nil | refine argsP_cons ?_ ?_)) <;> (first | exact E_plain _ | exact B_plain _ | exact lit_plain _ _ | exact int_plain _ _ | exact N_plain (by omega) | exact N_plain2 (by omega) (by omega) | assumption))) hpl (fun w0 => ?_)⟩
    have hs : b = 0 ∨ (0 < b ∧ b ≤ n) ∨ (0 < b ∧ n < b) := by omega
    rcases hs with h | h | h
    · skip
      rw [show wor a b n = 0 by unfold wor; rw [if_pos h]]
      exact goes_ret (ctx_ok tabU_ok 25) mixed rfl (orc := way []) (stops := []) (f := 3000) (k := [.code (bodyOf Try.f64)]) (o := .norm) (σ := (kn (argS 0 ([N a, N b, N n].map .one)) [])) (cs := [True, True, True, True, True, b = (0 : Nat), True, True]) (o' := .ret) (rs := Try.f64.results.toList) (v := (.one (N 0))) (H := ([] : List (Nat × Bk))) (by kernel_rfl) (.inr rfl) (by ((simp only [conj, and_true, true_and, and_self, cmp_lt0, cmp_le0, cmp_ge0, cmp_gt0, reduceCtorEq, not_false_eq_true]) <;> first | omega | (simp_all; done) | (simp_all; omega))) fun _ _ => rfl
    · skip
      rw [show wor a b n = a by unfold wor; rw [if_neg (by omega), if_pos h.2]]
      exact goes_ret (ctx_ok tabU_ok 25) mixed rfl (orc := way [(10, 1)]) (stops := []) (f := 3000) (k := [.code (bodyOf Try.f64)]) (o := .norm) (σ := (kn (argS 0 ([N a, N b, N n].map .one)) [])) (cs := [True, True, True, True, True, (0 : Nat) < b, True, True, True, (0 : Int) ≤ cmpN n b, True, True]) (o' := .ret) (rs := Try.f64.results.toList) (v := (.one (N a))) (H := ([] : List (Nat × Bk))) (by kernel_rfl) (.inr rfl) (by ((simp only [conj, and_true, true_and, and_self, cmp_lt0, cmp_le0, cmp_ge0, cmp_gt0, reduceCtorEq, not_false_eq_true]) <;> first | omega | (simp_all; done) | (simp_all; omega))) fun _ _ => rfl
    · skip
      have hd := div_le_of (n := n) (a := a) (by omega) h.1
      rw [show wor a b n = n * a / b by unfold wor; rw [if_neg (by omega), if_neg (by omega)]]
      exact goes_ret (ctx_ok tabU_ok 25) mixed rfl (orc := way [(10, 1), (15, 1)]) (stops := []) (f := 3000) (k := [.code (bodyOf Try.f64)]) (o := .norm) (σ := (kn (argS 0 ([N a, N b, N n].map .one)) [])) (cs := [True, True, True, True, True, (0 : Nat) < b, True, True, True, ¬(0 : Int) ≤ cmpN n b, True, True, True, (0 : Nat) < b ∧ n * a / b < TOP, True, True, True, True, True, True, True, True]) (o' := .ret) (rs := Try.f64.results.toList) (v := (.one (N (n * a / b)))) (H := ([] : List (Nat × Bk))) (by kernel_rfl) (.inr rfl) (by ((simp only [conj, and_true, true_and, and_self, cmp_lt0, cmp_le0, cmp_ge0, cmp_gt0, reduceCtorEq, not_false_eq_true]) <;> first | omega | (simp_all; done) | (simp_all; omega))) fun _ _ => rfl

theorem tV1_ok : TabOK tV1 := .cons (k3_ok (fun a w => Try.call63 a w) fun _ _ _ h1 h2 h3 => wor_owes h1 h2 h3) (.cons (k3_ok (fun a w => Try.call64 a w) fun _ _ _ h1 h2 h3 => rwor_owes h1 h2 h3) tabU_ok)


theorem few_owes {a b c : Nat} (ha : a < TOP) (hb : b < TOP) (hc : c < TOP) :
    Owes 65 [N a, N b, N c] [(c = 0 ∨ (c ≤ a ∧ 0 < b), .tup [N (few a b c), E 0]), (0 < c ∧ (a < c ∨ b = 0), .tup [N 0, E 3])] := by
  have ht := top_eq
  have hfew : (c = 0 ∨ (c ≤ a ∧ 0 < b)) → few a b c ≤ b := few_le
  intro p0 hp0 hc
  simp only [List.mem_cons, List.not_mem_nil, or_false] at hp0
  rcases hp0 with rfl | rfl
  · have hc' : c = 0 ∨ (c ≤ a ∧ 0 < b) := hc
    have hpl : (.tup [N (few a b c), E 0] : Sv).all Av.plain := by ((first | refine tupP ?_ | refine oneP ?_) <;> first | (first | exact E_plain _ | exact B_plain _ | exact lit_plain _ _ | exact int_plain _ _ | exact N_plain (by omega) | exact N_plain2 (by omega) (by omega) | assumption) | ((repeat' (first | exact argsP_nil | refine argsP_cons ?_ ?_)) <;> (first | exact E_plain _ | exact B_plain _ | exact lit_plain _ _ | exact int_plain _ _ | exact N_plain (by omega) | exact N_plain2 (by omega) (by omega) | assumption)))
    refine ⟨hpl, pure_calls' (ctx_ok tV1_ok 30) Try.func65 (c := bodyOf Try.f65) rfl rfl (args := [N a, N b, N c]) (Nat.le_of_ble_eq_true (by kernel_rfl)) (by ((repeat' (first | exact argsP_nil | refine argsP_cons ?_ ?_)) <;> (first | exact E_plain _ | exact B_plain _ | exact lit_plain _ _ | exact int_plain _ _ | exact N_plain (by omega) | exact N_plain2 (by omega) (by omega) | assumption))) hpl (fun w0 => ?_)⟩
    by_cases h : c = 0
    · skip
      rw [show few a b c = c by unfold few; rw [if_pos h, h]]
      exact goes_ret (ctx_ok tV1_ok 30) mixed rfl (orc := way []) (stops := []) (f := 3000) (k := [.code (bodyOf Try.f65)]) (o := .norm) (σ := (kn (argS 0 ([N a, N b, N c].map .one)) [])) (cs := [True, True, True, True, True, True, True, c = (0 : Nat), True, True, True, True]) (o' := .ret) (rs := Try.f65.results.toList) (v := (.tup [N c, E 0])) (H := ([] : List (Nat × Bk))) (by kernel_rfl) (.inr rfl) (by ((simp only [conj, and_true, true_and, and_self, cmp_lt0, cmp_le0, cmp_ge0, cmp_gt0, reduceCtorEq, not_false_eq_true]) <;> first | omega | (simp_all; done) | (simp_all; omega))) fun _ _ => rfl
    · skip
      rw [show few a b c = up (c * b) a by unfold few; rw [if_neg h]] at hfew ⊢
      exact goes_ret (ctx_ok tV1_ok 30) mixed rfl (orc := way [(11, 1), (17, 1), (21, 1)]) (stops := []) (f := 3000) (k := [.code (bodyOf Try.f65)]) (o := .norm) (σ := (kn (argS 0 ([N a, N b, N c].map .one)) [])) (cs := [True, True, True, True, True, True, True, ¬c = (0 : Nat), True, True, True, True, ¬(0 : Int) < cmpN c a, True, True, True, ¬b = (0 : Nat), True, True, True, True, True, (0 : Nat) < a ∧ up (c * b) a < TOP, True, True, True, True]) (o' := .ret) (rs := Try.f65.results.toList) (v := (.tup [N (up (c * b) a), E 0])) (H := ([] : List (Nat × Bk))) (by kernel_rfl) (.inr rfl) (by ((simp only [conj, and_true, true_and, and_self, cmp_lt0, cmp_le0, cmp_ge0, cmp_gt0, reduceCtorEq, not_false_eq_true]) <;> first | omega | (simp_all; done) | (simp_all; omega))) fun _ _ => rfl
  · have hc' : 0 < c ∧ (a < c ∨ b = 0) := hc
    have hpl : (.tup [N 0, E 3] : Sv).all Av.plain := by ((first | refine tupP ?_ | refine oneP ?_) <;> first | (first | exact E_plain _ | exact B_plain _ | exact lit_plain _ _ | exact int_plain _ _ | exact N_plain (by omega) | exact N_plain2 (by omega) (by omega) | assumption) | ((repeat' (first | exact argsP_nil | refine argsP_cons ?_ ?_)) <;> (first | exact E_plain _ | exact B_plain _ | exact lit_plain _ _ | exact int_plain _ _ | exact N_plain (by omega) | exact N_plain2 (by omega) (by omega) | assumption)))
    refine ⟨hpl, pure_calls' (ctx_ok tV1_ok 30) Try.func65 (c := bodyOf Try.f65) rfl rfl (args := [N a, N b, N c]) (Nat.le_of_ble_eq_true (by kernel_rfl)) (by ((repeat' (first | exact argsP_nil | refine argsP_cons ?_ ?_)) <;> (first | exact E_plain _ | exact B_plain _ | exact lit_plain _ _ | exact int_plain _ _ | exact N_plain (by omega) | exact N_plain2 (by omega) (by omega) | assumption))) hpl (fun w0 => ?_)⟩
    by_cases h : a < c
    · skip
      exact goes_ret (ctx_ok tV1_ok 30) mixed rfl (orc := way [(11, 1)]) (stops := []) (f := 3000) (k := [.code (bodyOf Try.f65)]) (o := .norm) (σ := (kn (argS 0 ([N a, N b, N c].map .one)) [])) (cs := [True, True, True, True, True, True, True, ¬c = (0 : Nat), True, True, True, True, (0 : Int) < cmpN c a, True, True, True, True, True, True, True, True, True]) (o' := .ret) (rs := Try.f65.results.toList) (v := (.tup [N 0, E 3])) (H := ([] : List (Nat × Bk))) (by kernel_rfl) (.inr rfl) (by ((simp only [conj, and_true, true_and, and_self, cmp_lt0, cmp_le0, cmp_ge0, cmp_gt0, reduceCtorEq, not_false_eq_true]) <;> first | omega | (simp_all; done) | (simp_all; omega))) fun _ _ => rfl
    · skip
      exact goes_ret (ctx_ok tV1_ok 30) mixed rfl (orc := way [(11, 1), (17, 1)]) (stops := []) (f := 3000) (k := [.code (bodyOf Try.f65)]) (o := .norm) (σ := (kn (argS 0 ([N a, N b, N c].map .one)) [])) (cs := [True, True, True, True, True, True, True, ¬c = (0 : Nat), True, True, True, True, ¬(0 : Int) < cmpN c a, True, True, True, b = (0 : Nat), True, True, True, True, True]) (o' := .ret) (rs := Try.f65.results.toList) (v := (.tup [N 0, E 3])) (H := ([] : List (Nat × Bk))) (by kernel_rfl) (.inr rfl) (by ((simp only [conj, and_true, true_and, and_self, cmp_lt0, cmp_le0, cmp_ge0, cmp_gt0, reduceCtorEq, not_false_eq_true]) <;> first | omega | (simp_all; done) | (simp_all; omega))) fun _ _ => rfl

theorem few_ref {a b c : Nat} (hc : 0 < c) (h : c ≤ a ∧ 0 < b) : (wor a b (c * b / a) < c ∧ up (c * b) a = c * b / a + 1) ∨ (c ≤ wor a b (c * b / a) ∧ up (c * b) a = c * b / a) := by
  have ha : 0 < a := by omega
  have hdm := Nat.div_add_mod (c * b) a
  have hm := Nat.mod_lt (c * b) ha
  by_cases hr : c * b % a = 0
  · right
    refine ⟨?_, up_zero ha hr⟩
    unfold wor
    rw [if_neg (by omega)]
    split
    · omega
    · have e : c * b / a * a = c * b := by rw [Nat.mul_comm]; omega
      rw [e, Nat.mul_div_cancel _ h.2]
      exact Nat.le_refl _
  · left
    refine ⟨?_, up_more ha hr⟩
    have hq : c * b / a * a < c * b := by rw [Nat.mul_comm (c * b / a)]; omega
    have hqb : c * b / a < b := by
      have h1 : c * b ≤ a * b := Nat.mul_le_mul_right _ h.1
      have h2 : c * b / a * a < b * a := by rw [Nat.mul_comm b a]; omega
      exact Nat.lt_of_mul_lt_mul_right h2
    unfold wor
    rw [if_neg (by omega), if_neg (by omega)]
    exact (Nat.div_lt_iff_lt_mul h.2).2 hq

theorem rfew_owes {a b c : Nat} (ha : a < TOP) (hb : b < TOP) (hc : c < TOP) :
    Owes 66 [N a, N b, N c] [(c = 0 ∨ (c ≤ a ∧ 0 < b), .tup [N (few a b c), E 0]), (0 < c ∧ (a < c ∨ b = 0), .tup [N 0, E 3])] := by
  have ht := top_eq
  have hfew : (c = 0 ∨ (c ≤ a ∧ 0 < b)) → few a b c ≤ b := few_le
  intro p0 hp0 hc
  simp only [List.mem_cons, List.not_mem_nil, or_false] at hp0
  rcases hp0 with rfl | rfl
  · have hc' : c = 0 ∨ (c ≤ a ∧ 0 < b) := hc
    have hpl : (.tup [N (few a b c), E 0] : Sv).all Av.plain := by ((first | refine tupP ?_ | refine oneP ?_) <;> first | (first | exact E_plain _ | exact B_plain _ | exact lit_plain _ _ | exact int_plain _ _ | exact N_plain (by omega) | exact N_plain2 (by omega) (by omega) | assumption) | ((repeat' (first | exact argsP_nil | refine argsP_cons ?_ ?_)) <;> (first | exact E_plain _ | exact B_plain _ | exact lit_plain _ _ | exact int_plain _ _ | exact N_plain (by omega) | exact N_plain2 (by omega) (by omega) | assumption)))
    refine ⟨hpl, pure_calls' (ctx_ok tV1_ok 43) Try.func66 (c := bodyOf Try.f66) rfl rfl (args := [N a, N b, N c]) (Nat.le_of_ble_eq_true (by kernel_rfl)) (by ((repeat' (first | exact argsP_nil | refine argsP_cons ?_ ?_)) <;> (first | exact E_plain _ | exact B_plain _ | exact lit_plain _ _ | exact int_plain _ _ | exact N_plain (by omega) | exact N_plain2 (by omega) (by omega) | assumption))) hpl (fun w0 => ?_)⟩
    by_cases h : c = 0
    rotate_left
    have hc2 : c ≤ a ∧ 0 < b := by omega
    have hfl := few_le hc'
    have hle : c * b / a ≤ up (c * b) a := by rcases few_ref (by omega) hc2 with h2 | h2 <;> omega
    rw [show few a b c = up (c * b) a by unfold few; rw [if_neg h]] at hfl ⊢
    rcases few_ref (by omega) hc2 with h2 | h2
    rotate_left 2
    · skip
      rw [show few a b c = c by unfold few; rw [if_pos h, h]]
      exact goes_ret (ctx_ok tV1_ok 43) mixed rfl (orc := way []) (stops := []) (f := 3000) (k := [.code (bodyOf Try.f66)]) (o := .norm) (σ := (kn (argS 0 ([N a, N b, N c].map .one)) [])) (cs := [True, True, True, True, True, True, c = (0 : Nat), True, True, True]) (o' := .ret) (rs := Try.f66.results.toList) (v := (.tup [N c, E 0])) (H := ([] : List (Nat × Bk))) (by kernel_rfl) (.inr rfl) (by ((simp only [conj, and_true, true_and, and_self, cmp_lt0, cmp_le0, cmp_ge0, cmp_gt0, reduceCtorEq, not_false_eq_true]) <;> first | omega | (simp_all; done) | (simp_all; omega))) fun _ _ => rfl
    · skip
      rw [h2.2] at hfl ⊢
      exact goes_ret (ctx_ok tV1_ok 43) mixed rfl (orc := way [(11, 1), (14, 1), (19, 1)]) (stops := []) (f := 3000) (k := [.code (bodyOf Try.f66)]) (o := .norm) (σ := (kn (argS 0 ([N a, N b, N c].map .one)) [])) (cs := [True, True, True, True, True, True, (0 : Nat) < c, True, (0 : Nat) < b, True, True, True, True, ¬(0 : Int) < cmpN c a, True, True, True, True, (0 : Nat) < a ∧ c * b / a < TOP, True, True, True, True, True, True, True, True, True, True, True, True, cmpN (wor a b (c * b / a)) c < (0 : Int), True, (0 : Int) ≤ (1 : Int) ∧ (1 : Int) < (18446744073709551616 : Int), c * b / a + 1 < TOP, True, True, True, True, True, True, True]) (o' := .ret) (rs := Try.f66.results.toList) (v := (.tup [N (c * b / a + 1), E 0])) (H := ([] : List (Nat × Bk))) (by kernel_rfl) (.inr rfl) (by ((simp only [conj, and_true, true_and, and_self, cmp_lt0, cmp_le0, cmp_ge0, cmp_gt0, reduceCtorEq, not_false_eq_true]) <;> first | omega | (simp_all; done) | (simp_all; omega))) fun _ _ => rfl
    · skip
      rw [h2.2] at hfl ⊢
      exact goes_ret (ctx_ok tV1_ok 43) mixed rfl (orc := way [(11, 1), (14, 1), (19, 1), (35, 1)]) (stops := []) (f := 3000) (k := [.code (bodyOf Try.f66)]) (o := .norm) (σ := (kn (argS 0 ([N a, N b, N c].map .one)) [])) (cs := [True, True, True, True, True, True, (0 : Nat) < c, True, (0 : Nat) < b, True, True, True, True, ¬(0 : Int) < cmpN c a, True, True, True, True, (0 : Nat) < a ∧ c * b / a < TOP, True, True, True, True, True, True, True, True, True, True, True, True, ¬cmpN (wor a b (c * b / a)) c < (0 : Int), True, True, True]) (o' := .ret) (rs := Try.f66.results.toList) (v := (.tup [N (c * b / a), E 0])) (H := ([] : List (Nat × Bk))) (by kernel_rfl) (.inr rfl) (by ((simp only [conj, and_true, true_and, and_self, cmp_lt0, cmp_le0, cmp_ge0, cmp_gt0, reduceCtorEq, not_false_eq_true]) <;> first | omega | (simp_all; done) | (simp_all; omega))) fun _ _ => rfl
  · have hc' : 0 < c ∧ (a < c ∨ b = 0) := hc
    have hpl : (.tup [N 0, E 3] : Sv).all Av.plain := by ((first | refine tupP ?_ | refine oneP ?_) <;> first | (first | exact E_plain _ | exact B_plain _ | exact lit_plain _ _ | exact int_plain _ _ | exact N_plain (by omega) | exact N_plain2 (by omega) (by omega) | assumption) | ((repeat' (first | exact argsP_nil | refine argsP_cons ?_ ?_)) <;> (first | exact E_plain _ | exact B_plain _ | exact lit_plain _ _ | exact int_plain _ _ | exact N_plain (by omega) | exact N_plain2 (by omega) (by omega) | assumption)))
    refine ⟨hpl, pure_calls' (ctx_ok tV1_ok 43) Try.func66 (c := bodyOf Try.f66) rfl rfl (args := [N a, N b, N c]) (Nat.le_of_ble_eq_true (by kernel_rfl)) (by ((repeat' (first | exact argsP_nil | refine argsP_cons ?_ ?_)) <;> (first | exact E_plain _ | exact B_plain _ | exact lit_plain _ _ | exact int_plain _ _ | exact N_plain (by omega) | exact N_plain2 (by omega) (by omega) | assumption))) hpl (fun w0 => ?_)⟩
    by_cases h : b = 0
    · skip
      exact goes_ret (ctx_ok tV1_ok 43) mixed rfl (orc := way [(11, 1)]) (stops := []) (f := 3000) (k := [.code (bodyOf Try.f66)]) (o := .norm) (σ := (kn (argS 0 ([N a, N b, N c].map .one)) [])) (cs := [True, True, True, True, True, True, (0 : Nat) < c, True, b = (0 : Nat), True, True, True, True, True, True, True, True, True]) (o' := .ret) (rs := Try.f66.results.toList) (v := (.tup [N 0, E 3])) (H := ([] : List (Nat × Bk))) (by kernel_rfl) (.inr rfl) (by ((simp only [conj, and_true, true_and, and_self, cmp_lt0, cmp_le0, cmp_ge0, cmp_gt0, reduceCtorEq, not_false_eq_true]) <;> first | omega | (simp_all; done) | (simp_all; omega))) fun _ _ => rfl
    · skip
      exact goes_ret (ctx_ok tV1_ok 43) mixed rfl (orc := way [(11, 1), (14, 1)]) (stops := []) (f := 3000) (k := [.code (bodyOf Try.f66)]) (o := .norm) (σ := (kn (argS 0 ([N a, N b, N c].map .one)) [])) (cs := [True, True, True, True, True, True, (0 : Nat) < c, True, (0 : Nat) < b, True, True, True, True, (0 : Int) < cmpN c a, True, True, True, True]) (o' := .ret) (rs := Try.f66.results.toList) (v := (.tup [N 0, E 3])) (H := ([] : List (Nat × Bk))) (by kernel_rfl) (.inr rfl) (by ((simp only [conj, and_true, true_and, and_self, cmp_lt0, cmp_le0, cmp_ge0, cmp_gt0, reduceCtorEq, not_false_eq_true]) <;> first | omega | (simp_all; done) | (simp_all; omega))) fun _ _ => rfl

theorem prt_owes {a : Nat} {p : Int} (ha : a < TOP) (hp : 0 ≤ p ∧ p < 65536) :
    Owes 67 [N a, [.int .u16 p]] [(0 ≤ p ∧ p < 65536, .one (N (prt a p)))] := by
  have ht := top_eq
  have hle := prt_le a hp.1
  intro p0 hp0 hc
  simp only [List.mem_cons, List.not_mem_nil, or_false] at hp0
  subst hp0
  · have hc' : 0 ≤ p ∧ p < 65536 := hc
    have hpl : (.one (N (prt a p)) : Sv).all Av.plain := by ((first | refine tupP ?_ | refine oneP ?_) <;> first | (first | exact E_plain _ | exact B_plain _ | exact lit_plain _ _ | exact int_plain _ _ | exact N_plain (by omega) | exact N_plain2 (by omega) (by omega) | assumption) | ((repeat' (first | exact argsP_nil | refine argsP_cons ?_ ?_)) <;> (first | exact E_plain _ | exact B_plain _ | exact lit_plain _ _ | exact int_plain _ _ | exact N_plain (by omega) | exact N_plain2 (by omega) (by omega) | assumption)))
    refine ⟨hpl, pure_calls' (ctx_ok tV1_ok 20) Try.func67 (c := bodyOf Try.f67) rfl rfl (args := [N a, [.int .u16 p]]) (Nat.le_of_ble_eq_true (by kernel_rfl)) (by ((repeat' (first | exact argsP_nil | refine argsP_cons ?_ ?_)) <;> (first | exact E_plain _ | exact B_plain _ | exact lit_plain _ _ | exact int_plain _ _ | exact N_plain (by omega) | exact N_plain2 (by omega) (by omega) | assumption))) hpl (fun w0 => ?_)⟩
    by_cases h : 10000 ≤ p
    · skip
      rw [show prt a p = a by unfold prt; rw [if_pos h]]
      exact goes_ret (ctx_ok tV1_ok 20) mixed rfl (orc := way []) (stops := []) (f := 3000) (k := [.code (bodyOf Try.f67)]) (o := .norm) (σ := (kn (argS 0 ([N a, [.int .u16 p]].map .one)) [])) (cs := [True, True, True, (10000 : Int) ≤ p, True, True]) (o' := .ret) (rs := Try.f67.results.toList) (v := (.one (N a))) (H := ([] : List (Nat × Bk))) (by kernel_rfl) (.inr rfl) (by ((simp only [conj, and_true, true_and, and_self, cmp_lt0, cmp_le0, cmp_ge0, cmp_gt0, reduceCtorEq, not_false_eq_true]) <;> first | omega | (simp_all; done) | (simp_all; omega))) fun _ _ => rfl
    · skip
      rw [show prt a p = a * p.toNat / 10000 by unfold prt; rw [if_neg h]] at hle ⊢
      exact goes_ret (ctx_ok tV1_ok 20) mixed rfl (orc := way [(8, 1)]) (stops := []) (f := 3000) (k := [.code (bodyOf Try.f67)]) (o := .norm) (σ := (kn (argS 0 ([N a, [.int .u16 p]].map .one)) [])) (cs := [True, True, True, ¬(10000 : Int) ≤ p, True, True, (0 : Int) ≤ p ∧ p < (18446744073709551616 : Int), (0 : Int) ≤ p ∧ p < (18446744073709551616 : Int), (0 : Int) ≤ (10000 : Int) ∧ (10000 : Int) < (18446744073709551616 : Int), (0 : Nat) < 10000 ∧ a * Int.toNat p / 10000 < TOP, True, True, True, True, True, True, True, True]) (o' := .ret) (rs := Try.f67.results.toList) (v := (.one (N (a * p.toNat / 10000)))) (H := ([] : List (Nat × Bk))) (by kernel_rfl) (.inr rfl) (by ((simp only [conj, and_true, true_and, and_self, cmp_lt0, cmp_le0, cmp_ge0, cmp_gt0, reduceCtorEq, not_false_eq_true]) <;> first | omega | (simp_all; done) | (simp_all; omega))) fun _ _ => rfl

theorem rprt_owes {a : Nat} {p : Int} (ha : a < TOP) (hp : 0 ≤ p ∧ p < 65536) :
    Owes 68 [N a, [.int .u16 p]] [(0 ≤ p ∧ p < 65536, .one (N (prt a p)))] := by
  have ht := top_eq
  have hle := prt_le a hp.1
  intro p0 hp0 hc
  simp only [List.mem_cons, List.not_mem_nil, or_false] at hp0
  subst hp0
  · have hc' : 0 ≤ p ∧ p < 65536 := hc
    have hpl : (.one (N (prt a p)) : Sv).all Av.plain := by ((first | refine tupP ?_ | refine oneP ?_) <;> first | (first | exact E_plain _ | exact B_plain _ | exact lit_plain _ _ | exact int_plain _ _ | exact N_plain (by omega) | exact N_plain2 (by omega) (by omega) | assumption) | ((repeat' (first | exact argsP_nil | refine argsP_cons ?_ ?_)) <;> (first | exact E_plain _ | exact B_plain _ | exact lit_plain _ _ | exact int_plain _ _ | exact N_plain (by omega) | exact N_plain2 (by omega) (by omega) | assumption)))
    refine ⟨hpl, pure_calls' (ctx_ok tV1_ok 20) Try.func68 (c := bodyOf Try.f68) rfl rfl (args := [N a, [.int .u16 p]]) (Nat.le_of_ble_eq_true (by kernel_rfl)) (by ((repeat' (first | exact argsP_nil | refine argsP_cons ?_ ?_)) <;> (first | exact E_plain _ | exact B_plain _ | exact lit_plain _ _ | exact int_plain _ _ | exact N_plain (by omega) | exact N_plain2 (by omega) (by omega) | assumption))) hpl (fun w0 => ?_)⟩
    by_cases h : 10000 ≤ p
    · skip
      rw [show prt a p = a by unfold prt; rw [if_pos h]]
      exact goes_ret (ctx_ok tV1_ok 20) mixed rfl (orc := way []) (stops := []) (f := 3000) (k := [.code (bodyOf Try.f68)]) (o := .norm) (σ := (kn (argS 0 ([N a, [.int .u16 p]].map .one)) [])) (cs := [True, True, True, (10000 : Int) ≤ p, True, True]) (o' := .ret) (rs := Try.f68.results.toList) (v := (.one (N a))) (H := ([] : List (Nat × Bk))) (by kernel_rfl) (.inr rfl) (by ((simp only [conj, and_true, true_and, and_self, cmp_lt0, cmp_le0, cmp_ge0, cmp_gt0, reduceCtorEq, not_false_eq_true]) <;> first | omega | (simp_all; done) | (simp_all; omega))) fun _ _ => rfl
    · skip
      rw [show prt a p = a * p.toNat / 10000 by unfold prt; rw [if_neg h]] at hle ⊢
      exact goes_ret (ctx_ok tV1_ok 20) mixed rfl (orc := way [(8, 1)]) (stops := []) (f := 3000) (k := [.code (bodyOf Try.f68)]) (o := .norm) (σ := (kn (argS 0 ([N a, [.int .u16 p]].map .one)) [])) (cs := [True, True, True, ¬(10000 : Int) ≤ p, True, True, (0 : Int) ≤ p ∧ p < (18446744073709551616 : Int), (0 : Int) ≤ p ∧ p < (18446744073709551616 : Int), (0 : Int) ≤ (10000 : Int) ∧ (10000 : Int) < (18446744073709551616 : Int), (0 : Nat) < 10000 ∧ a * Int.toNat p / 10000 < TOP, True, True, True, True, True, True, True, True]) (o' := .ret) (rs := Try.f68.results.toList) (v := (.one (N (a * p.toNat / 10000)))) (H := ([] : List (Nat × Bk))) (by kernel_rfl) (.inr rfl) (by ((simp only [conj, and_true, true_and, and_self, cmp_lt0, cmp_le0, cmp_ge0, cmp_gt0, reduceCtorEq, not_false_eq_true]) <;> first | omega | (simp_all; done) | (simp_all; omega))) fun _ _ => rfl

theorem sha_owes {a b c : Nat} (ha : a < TOP) (hb : b < TOP) (hc : c < TOP) :
    Owes 69 [N a, N b, N c] [(b = 0, .tup [N c, E 0]), (0 < b ∧ 0 < a ∧ c * b / a < TOP, .tup [N (c * b / a), E 0]), (0 < b ∧ 0 < a ∧ TOP ≤ c * b / a, .tup [N 0, E 2]), (0 < b ∧ a = 0, .tup [N 0, E 1])] := by
  have ht := top_eq
  intro p0 hp0 hc
  simp only [List.mem_cons, List.not_mem_nil, or_false] at hp0
  rcases hp0 with rfl | rfl | rfl | rfl
  · have hc' : b = 0 := hc
    have hpl : (.tup [N c, E 0] : Sv).all Av.plain := by ((first | refine tupP ?_ | refine oneP ?_) <;> first | (first | exact E_plain _ | exact B_plain _ | exact lit_plain _ _ | exact int_plain _ _ | exact N_plain (by omega) | exact N_plain2 (by omega) (by omega) | assumption) | ((repeat' (first | exact argsP_nil | refine argsP_cons ?_ ?_)) <;> (first | exact E_plain _ | exact B_plain _ | exact lit_plain _ _ | exact int_plain _ _ | exact N_plain (by omega) | exact N_plain2 (by omega) (by omega) | assumption)))
    refine ⟨hpl, pure_calls' (ctx_ok tV1_ok 18) Try.func69 (c := bodyOf Try.f69) rfl rfl (args := [N a, N b, N c]) (Nat.le_of_ble_eq_true (by kernel_rfl)) (by ((repeat' (first | exact argsP_nil | refine argsP_cons ?_ ?_)) <;> (first | exact E_plain _ | exact B_plain _ | exact lit_plain _ _ | exact int_plain _ _ | exact N_plain (by omega) | exact N_plain2 (by omega) (by omega) | assumption))) hpl (fun w0 => ?_)⟩
    exact goes_ret (ctx_ok tV1_ok 18) mixed rfl (orc := way []) (stops := []) (f := 3000) (k := [.code (bodyOf Try.f69)]) (o := .norm) (σ := (kn (argS 0 ([N a, N b, N c].map .one)) [])) (cs := [True, True, True, True, True, True, True, b = (0 : Nat), True, True, True]) (o' := .ret) (rs := Try.f69.results.toList) (v := (.tup [N c, E 0])) (H := ([] : List (Nat × Bk))) (by kernel_rfl) (.inr rfl) (by ((simp only [conj, and_true, true_and, and_self, cmp_lt0, cmp_le0, cmp_ge0, cmp_gt0, reduceCtorEq, not_false_eq_true]) <;> first | omega | (simp_all; done) | (simp_all; omega))) fun _ _ => rfl
  · have hc' : 0 < b ∧ 0 < a ∧ c * b / a < TOP := hc
    have hpl : (.tup [N (c * b / a), E 0] : Sv).all Av.plain := by ((first | refine tupP ?_ | refine oneP ?_) <;> first | (first | exact E_plain _ | exact B_plain _ | exact lit_plain _ _ | exact int_plain _ _ | exact N_plain (by omega) | exact N_plain2 (by omega) (by omega) | assumption) | ((repeat' (first | exact argsP_nil | refine argsP_cons ?_ ?_)) <;> (first | exact E_plain _ | exact B_plain _ | exact lit_plain _ _ | exact int_plain _ _ | exact N_plain (by omega) | exact N_plain2 (by omega) (by omega) | assumption)))
    refine ⟨hpl, pure_calls' (ctx_ok tV1_ok 18) Try.func69 (c := bodyOf Try.f69) rfl rfl (args := [N a, N b, N c]) (Nat.le_of_ble_eq_true (by kernel_rfl)) (by ((repeat' (first | exact argsP_nil | refine argsP_cons ?_ ?_)) <;> (first | exact E_plain _ | exact B_plain _ | exact lit_plain _ _ | exact int_plain _ _ | exact N_plain (by omega) | exact N_plain2 (by omega) (by omega) | assumption))) hpl (fun w0 => ?_)⟩
    exact goes_ret (ctx_ok tV1_ok 18) mixed rfl (orc := way [(10, 1)]) (stops := []) (f := 3000) (k := [.code (bodyOf Try.f69)]) (o := .norm) (σ := (kn (argS 0 ([N a, N b, N c].map .one)) [])) (cs := [True, True, True, True, True, True, True, ¬b = (0 : Nat), True, True, True, (0 : Nat) < a ∧ c * b / a < TOP, True, True, True, True]) (o' := .ret) (rs := Try.f69.results.toList) (v := (.tup [N (c * b / a), E 0])) (H := ([] : List (Nat × Bk))) (by kernel_rfl) (.inr rfl) (by ((simp only [conj, and_true, true_and, and_self, cmp_lt0, cmp_le0, cmp_ge0, cmp_gt0, reduceCtorEq, not_false_eq_true]) <;> first | omega | (simp_all; done) | (simp_all; omega))) fun _ _ => rfl
  · have hc' : 0 < b ∧ 0 < a ∧ TOP ≤ c * b / a := hc
    have hpl : (.tup [N 0, E 2] : Sv).all Av.plain := by ((first | refine tupP ?_ | refine oneP ?_) <;> first | (first | exact E_plain _ | exact B_plain _ | exact lit_plain _ _ | exact int_plain _ _ | exact N_plain (by omega) | exact N_plain2 (by omega) (by omega) | assumption) | ((repeat' (first | exact argsP_nil | refine argsP_cons ?_ ?_)) <;> (first | exact E_plain _ | exact B_plain _ | exact lit_plain _ _ | exact int_plain _ _ | exact N_plain (by omega) | exact N_plain2 (by omega) (by omega) | assumption)))
    refine ⟨hpl, pure_calls' (ctx_ok tV1_ok 18) Try.func69 (c := bodyOf Try.f69) rfl rfl (args := [N a, N b, N c]) (Nat.le_of_ble_eq_true (by kernel_rfl)) (by ((repeat' (first | exact argsP_nil | refine argsP_cons ?_ ?_)) <;> (first | exact E_plain _ | exact B_plain _ | exact lit_plain _ _ | exact int_plain _ _ | exact N_plain (by omega) | exact N_plain2 (by omega) (by omega) | assumption))) hpl (fun w0 => ?_)⟩
    exact goes_ret (ctx_ok tV1_ok 18) mixed rfl (orc := way [(10, 1), (15, 1)]) (stops := []) (f := 3000) (k := [.code (bodyOf Try.f69)]) (o := .norm) (σ := (kn (argS 0 ([N a, N b, N c].map .one)) [])) (cs := [True, True, True, True, True, True, True, ¬b = (0 : Nat), True, True, True, (0 : Nat) < a ∧ TOP ≤ c * b / a, True, True, True, True]) (o' := .ret) (rs := Try.f69.results.toList) (v := (.tup [N 0, E 2])) (H := ([] : List (Nat × Bk))) (by kernel_rfl) (.inr rfl) (by ((simp only [conj, and_true, true_and, and_self, cmp_lt0, cmp_le0, cmp_ge0, cmp_gt0, reduceCtorEq, not_false_eq_true]) <;> first | omega | (simp_all; done) | (simp_all; omega))) fun _ _ => rfl
  · have hc' : 0 < b ∧ a = 0 := hc
    have hpl : (.tup [N 0, E 1] : Sv).all Av.plain := by ((first | refine tupP ?_ | refine oneP ?_) <;> first | (first | exact E_plain _ | exact B_plain _ | exact lit_plain _ _ | exact int_plain _ _ | exact N_plain (by omega) | exact N_plain2 (by omega) (by omega) | assumption) | ((repeat' (first | exact argsP_nil | refine argsP_cons ?_ ?_)) <;> (first | exact E_plain _ | exact B_plain _ | exact lit_plain _ _ | exact int_plain _ _ | exact N_plain (by omega) | exact N_plain2 (by omega) (by omega) | assumption)))
    refine ⟨hpl, pure_calls' (ctx_ok tV1_ok 18) Try.func69 (c := bodyOf Try.f69) rfl rfl (args := [N a, N b, N c]) (Nat.le_of_ble_eq_true (by kernel_rfl)) (by ((repeat' (first | exact argsP_nil | refine argsP_cons ?_ ?_)) <;> (first | exact E_plain _ | exact B_plain _ | exact lit_plain _ _ | exact int_plain _ _ | exact N_plain (by omega) | exact N_plain2 (by omega) (by omega) | assumption))) hpl (fun w0 => ?_)⟩
    exact goes_ret (ctx_ok tV1_ok 18) mixed rfl (orc := way [(10, 1), (15, 2)]) (stops := []) (f := 3000) (k := [.code (bodyOf Try.f69)]) (o := .norm) (σ := (kn (argS 0 ([N a, N b, N c].map .one)) [])) (cs := [True, True, True, True, True, True, True, ¬b = (0 : Nat), True, True, True, a = (0 : Nat), True, True, True, True]) (o' := .ret) (rs := Try.f69.results.toList) (v := (.tup [N 0, E 1])) (H := ([] : List (Nat × Bk))) (by kernel_rfl) (.inr rfl) (by ((simp only [conj, and_true, true_and, and_self, cmp_lt0, cmp_le0, cmp_ge0, cmp_gt0, reduceCtorEq, not_false_eq_true]) <;> first | omega | (simp_all; done) | (simp_all; omega))) fun _ _ => rfl

theorem rsha_owes {a b c : Nat} (ha : a < TOP) (hb : b < TOP) (hc : c < TOP) :
    Owes 70 [N a, N b, N c] [(b = 0, .tup [N c, E 0]), (0 < b ∧ 0 < a ∧ c * b / a < TOP, .tup [N (c * b / a), E 0]), (0 < b ∧ 0 < a ∧ TOP ≤ c * b / a, .tup [N 0, E 2]), (0 < b ∧ a = 0, .tup [N 0, E 1])] := by
  have ht := top_eq
  intro p0 hp0 hc
  simp only [List.mem_cons, List.not_mem_nil, or_false] at hp0
  rcases hp0 with rfl | rfl | rfl | rfl
  · have hc' : b = 0 := hc
    have hpl : (.tup [N c, E 0] : Sv).all Av.plain := by ((first | refine tupP ?_ | refine oneP ?_) <;> first | (first | exact E_plain _ | exact B_plain _ | exact lit_plain _ _ | exact int_plain _ _ | exact N_plain (by omega) | exact N_plain2 (by omega) (by omega) | assumption) | ((repeat' (first | exact argsP_nil | refine argsP_cons ?_ ?_)) <;> (first | exact E_plain _ | exact B_plain _ | exact lit_plain _ _ | exact int_plain _ _ | exact N_plain (by omega) | exact N_plain2 (by omega) (by omega) | assumption)))
    refine ⟨hpl, pure_calls' (ctx_ok tV1_ok 17) Try.func70 (c := bodyOf Try.f70) rfl rfl (args := [N a, N b, N c]) (Nat.le_of_ble_eq_true (by kernel_rfl)) (by ((repeat' (first | exact argsP_nil | refine argsP_cons ?_ ?_)) <;> (first | exact E_plain _ | exact B_plain _ | exact lit_plain _ _ | exact int_plain _ _ | exact N_plain (by omega) | exact N_plain2 (by omega) (by omega) | assumption))) hpl (fun w0 => ?_)⟩
    exact goes_ret (ctx_ok tV1_ok 17) mixed rfl (orc := way []) (stops := []) (f := 3000) (k := [.code (bodyOf Try.f70)]) (o := .norm) (σ := (kn (argS 0 ([N a, N b, N c].map .one)) [])) (cs := [True, True, True, True, True, True, b = (0 : Nat), True, True, True]) (o' := .ret) (rs := Try.f70.results.toList) (v := (.tup [N c, E 0])) (H := ([] : List (Nat × Bk))) (by kernel_rfl) (.inr rfl) (by ((simp only [conj, and_true, true_and, and_self, cmp_lt0, cmp_le0, cmp_ge0, cmp_gt0, reduceCtorEq, not_false_eq_true]) <;> first | omega | (simp_all; done) | (simp_all; omega))) fun _ _ => rfl
  · have hc' : 0 < b ∧ 0 < a ∧ c * b / a < TOP := hc
    have hpl : (.tup [N (c * b / a), E 0] : Sv).all Av.plain := by ((first | refine tupP ?_ | refine oneP ?_) <;> first | (first | exact E_plain _ | exact B_plain _ | exact lit_plain _ _ | exact int_plain _ _ | exact N_plain (by omega) | exact N_plain2 (by omega) (by omega) | assumption) | ((repeat' (first | exact argsP_nil | refine argsP_cons ?_ ?_)) <;> (first | exact E_plain _ | exact B_plain _ | exact lit_plain _ _ | exact int_plain _ _ | exact N_plain (by omega) | exact N_plain2 (by omega) (by omega) | assumption)))
    refine ⟨hpl, pure_calls' (ctx_ok tV1_ok 17) Try.func70 (c := bodyOf Try.f70) rfl rfl (args := [N a, N b, N c]) (Nat.le_of_ble_eq_true (by kernel_rfl)) (by ((repeat' (first | exact argsP_nil | refine argsP_cons ?_ ?_)) <;> (first | exact E_plain _ | exact B_plain _ | exact lit_plain _ _ | exact int_plain _ _ | exact N_plain (by omega) | exact N_plain2 (by omega) (by omega) | assumption))) hpl (fun w0 => ?_)⟩
    exact goes_ret (ctx_ok tV1_ok 17) mixed rfl (orc := way [(9, 1)]) (stops := []) (f := 3000) (k := [.code (bodyOf Try.f70)]) (o := .norm) (σ := (kn (argS 0 ([N a, N b, N c].map .one)) [])) (cs := [True, True, True, True, True, True, (0 : Nat) < b, True, True, True, (0 : Nat) < a ∧ c * b / a < TOP, True, True, True, True]) (o' := .ret) (rs := Try.f70.results.toList) (v := (.tup [N (c * b / a), E 0])) (H := ([] : List (Nat × Bk))) (by kernel_rfl) (.inr rfl) (by ((simp only [conj, and_true, true_and, and_self, cmp_lt0, cmp_le0, cmp_ge0, cmp_gt0, reduceCtorEq, not_false_eq_true]) <;> first | omega | (simp_all; done) | (simp_all; omega))) fun _ _ => rfl
  · have hc' : 0 < b ∧ 0 < a ∧ TOP ≤ c * b / a := hc
    have hpl : (.tup [N 0, E 2] : Sv).all Av.plain := by ((first | refine tupP ?_ | refine oneP ?_) <;> first | (first | exact E_plain _ | exact B_plain _ | exact lit_plain _ _ | exact int_plain _ _ | exact N_plain (by omega) | exact N_plain2 (by omega) (by omega) | assumption) | ((repeat' (first | exact argsP_nil | refine argsP_cons ?_ ?_)) <;> (first | exact E_plain _ | exact B_plain _ | exact lit_plain _ _ | exact int_plain _ _ | exact N_plain (by omega) | exact N_plain2 (by omega) (by omega) | assumption)))
    refine ⟨hpl, pure_calls' (ctx_ok tV1_ok 17) Try.func70 (c := bodyOf Try.f70) rfl rfl (args := [N a, N b, N c]) (Nat.le_of_ble_eq_true (by kernel_rfl)) (by ((repeat' (first | exact argsP_nil | refine argsP_cons ?_ ?_)) <;> (first | exact E_plain _ | exact B_plain _ | exact lit_plain _ _ | exact int_plain _ _ | exact N_plain (by omega) | exact N_plain2 (by omega) (by omega) | assumption))) hpl (fun w0 => ?_)⟩
    exact goes_ret (ctx_ok tV1_ok 17) mixed rfl (orc := way [(9, 1), (14, 1)]) (stops := []) (f := 3000) (k := [.code (bodyOf Try.f70)]) (o := .norm) (σ := (kn (argS 0 ([N a, N b, N c].map .one)) [])) (cs := [True, True, True, True, True, True, (0 : Nat) < b, True, True, True, (0 : Nat) < a ∧ TOP ≤ c * b / a, True, True, True, True]) (o' := .ret) (rs := Try.f70.results.toList) (v := (.tup [N 0, E 2])) (H := ([] : List (Nat × Bk))) (by kernel_rfl) (.inr rfl) (by ((simp only [conj, and_true, true_and, and_self, cmp_lt0, cmp_le0, cmp_ge0, cmp_gt0, reduceCtorEq, not_false_eq_true]) <;> first | omega | (simp_all; done) | (simp_all; omega))) fun _ _ => rfl
  · have hc' : 0 < b ∧ a = 0 := hc
    have hpl : (.tup [N 0, E 1] : Sv).all Av.plain := by ((first | refine tupP ?_ | refine oneP ?_) <;> first | (first | exact E_plain _ | exact B_plain _ | exact lit_plain _ _ | exact int_plain _ _ | exact N_plain (by omega) | exact N_plain2 (by omega) (by omega) | assumption) | ((repeat' (first | exact argsP_nil | refine argsP_cons ?_ ?_)) <;> (first | exact E_plain _ | exact B_plain _ | exact lit_plain _ _ | exact int_plain _ _ | exact N_plain (by omega) | exact N_plain2 (by omega) (by omega) | assumption)))
    refine ⟨hpl, pure_calls' (ctx_ok tV1_ok 17) Try.func70 (c := bodyOf Try.f70) rfl rfl (args := [N a, N b, N c]) (Nat.le_of_ble_eq_true (by kernel_rfl)) (by ((repeat' (first | exact argsP_nil | refine argsP_cons ?_ ?_)) <;> (first | exact E_plain _ | exact B_plain _ | exact lit_plain _ _ | exact int_plain _ _ | exact N_plain (by omega) | exact N_plain2 (by omega) (by omega) | assumption))) hpl (fun w0 => ?_)⟩
    exact goes_ret (ctx_ok tV1_ok 17) mixed rfl (orc := way [(9, 1), (14, 2)]) (stops := []) (f := 3000) (k := [.code (bodyOf Try.f70)]) (o := .norm) (σ := (kn (argS 0 ([N a, N b, N c].map .one)) [])) (cs := [True, True, True, True, True, True, (0 : Nat) < b, True, True, True, a = (0 : Nat), True, True, True, True]) (o' := .ret) (rs := Try.f70.results.toList) (v := (.tup [N 0, E 1])) (H := ([] : List (Nat × Bk))) (by kernel_rfl) (.inr rfl) (by ((simp only [conj, and_true, true_and, and_self, cmp_lt0, cmp_le0, cmp_ge0, cmp_gt0, reduceCtorEq, not_false_eq_true]) <;> first | omega | (simp_all; done) | (simp_all; omega))) fun _ _ => rfl

theorem prt_e {f : Nat} (hcall : ∀ args w, (callFunc f args).run Try.prog w = .ok (.enter f args) w) (h : ∀ {a : Nat} {p : Int}, a < TOP → (0 ≤ p ∧ p < 65536) → Owes f [N a, [.int .u16 p]] [(0 ≤ p ∧ p < 65536, .one (N (prt a p)))]) : EOK ⟨f, 0, pcon prtK⟩ := by
  refine pcon_ok hcall fun args l hl ha p hp hc => ?_
  unfold prtK at hl
  split at hl
  · cases hl
    have e := hp
    simp only [prtL, List.mem_singleton] at e
    subst e
    exact h (big_lt ha (by simp)) hc _ hp hc
  · cases hl
    have e := hp
    simp only [prtL, List.mem_singleton] at e
    subst e
    exact h (big_lt ha (by simp)) hc _ hp hc
  · cases hl

theorem tV_ok : TabOK tV := .cons (k3_ok (fun a w => Try.call65 a w) fun _ _ _ h1 h2 h3 => few_owes h1 h2 h3) (.cons (k3_ok (fun a w => Try.call66 a w) fun _ _ _ h1 h2 h3 => rfew_owes h1 h2 h3)
  (.cons (prt_e (fun a w => Try.call67 a w) prt_owes) (.cons (prt_e (fun a w => Try.call68 a w) rprt_owes)
  (.cons (k3_ok (fun a w => Try.call69 a w) fun _ _ _ h1 h2 h3 => sha_owes h1 h2 h3) (.cons (k3_ok (fun a w => Try.call70 a w) fun _ _ _ h1 h2 h3 => rsha_owes h1 h2 h3) (.cons small_e.2 (.cons small_e.1 tV1_ok)))))))


theorem worths_owes  :
    Owes 62 [] [(True, .one (B true))] := by
  have ht := top_eq
  intro p0 hp0 hc
  simp only [List.mem_cons, List.not_mem_nil, or_false] at hp0
  subst hp0
  · have hc' : True := hc
    have hpl : (.one (B true) : Sv).all Av.plain := by ((first | refine tupP ?_ | refine oneP ?_) <;> first | (first | exact E_plain _ | exact B_plain _ | exact lit_plain _ _ | exact int_plain _ _ | exact N_plain (by omega) | exact N_plain2 (by omega) (by omega) | assumption) | ((repeat' (first | exact argsP_nil | refine argsP_cons ?_ ?_)) <;> (first | exact E_plain _ | exact B_plain _ | exact lit_plain _ _ | exact int_plain _ _ | exact N_plain (by omega) | exact N_plain2 (by omega) (by omega) | assumption)))
    refine ⟨hpl, pure_calls' (ctx_ok tV_ok 31) Try.func62 (c := bodyOf Try.f62) rfl rfl (args := []) (Nat.le_of_ble_eq_true (by kernel_rfl)) (by ((repeat' (first | exact argsP_nil | refine argsP_cons ?_ ?_)) <;> (first | exact E_plain _ | exact B_plain _ | exact lit_plain _ _ | exact int_plain _ _ | exact N_plain (by omega) | exact N_plain2 (by omega) (by omega) | assumption))) hpl (fun w0 => ?_)⟩
    exact goes_ret (ctx_ok tV_ok 31) mixed rfl (orc := way []) (stops := []) (f := 3000) (k := [.code (bodyOf Try.f62)]) (o := .norm) (σ := (kn (argS 0 ([].map .one)) [])) (cs := [True, True, True, True, 1 = (0 : Nat) ∨ 1 ≤ 2 ∧ (0 : Nat) < 3, True, True, True, True, True, True, True, True, True, True, True, wor (2) (3) (2) = 1, True, True, True, few (2) (3) (1) = 2, True, True, True, True, True, True, True, (0 : Int) ≤ (5000 : Int) ∧ (5000 : Int) < (65536 : Int), True, prt (9) (5000 : Int) = 4, True, True]) (o' := .ret) (rs := Try.f62.results.toList) (v := (.one (B true))) (H := ([] : List (Nat × Bk))) (by kernel_rfl) (.inr rfl) (by simp [conj, few, up, wor, prt]) fun _ _ => rfl

theorem tW_ok : TabOK tW := .cons (k0_ok (fun a w => Try.call62 a w) worths_owes) tV_ok

end M
end Go.Proofs.Ytmjdmhelmgcanaa

/- The laws of share, as calls. -/
namespace Go.Proofs.Ytmjdmhelmgcanaa
namespace M
open Go.RowKit
set_option linter.unusedSimpArgs false

def shlT : List (Prop × Sv) := [(True, .one (B true))]

theorem wor_mono {a b n m : Nat} (h : n ≤ m) : wor a b n ≤ wor a b m := by
  unfold wor
  split
  · omega
  · split
    · rw [if_pos (by omega)]; omega
    · split
      · exact div_le_of (by omega) (by omega)
      · exact Nat.div_le_div_right (Nat.mul_le_mul_right _ h)
theorem few_good {a b c : Nat} (hc : 0 < c) (h : c ≤ a ∧ 0 < b) : c ≤ wor a b (few a b c) ∧ wor a b (few a b c - 1) < c := by
  have ha : 0 < a := by omega
  have hf : few a b c = up (c * b) a := by unfold few; rw [if_neg (by omega)]
  have hle : few a b c ≤ b := few_le (.inr h)
  rw [hf] at hle ⊢
  have hdm := Nat.div_add_mod (c * b) a
  have hcb : 0 < c * b := Nat.mul_pos hc h.2
  have hup : c * b ≤ up (c * b) a * a ∧ (up (c * b) a - 1) * a < c * b := by
    by_cases hr : c * b % a = 0
    · rw [up_zero ha hr]
      have e : c * b / a * a = c * b := by rw [Nat.mul_comm]; omega
      rw [Nat.sub_mul, Nat.one_mul, e]
      omega
    · rw [up_more ha hr, Nat.add_sub_cancel, Nat.add_mul, Nat.one_mul]
      have e : c * b / a * a = a * (c * b / a) := Nat.mul_comm _ _
      have hm := Nat.mod_lt (c * b) ha
      omega
  have hup0 : 0 < up (c * b) a := by
    rcases Nat.eq_zero_or_pos (up (c * b) a) with e | e
    · rw [e] at hup; omega
    · exact e
  refine ⟨?_, ?_⟩
  · unfold wor
    rw [if_neg (by omega)]
    split
    · exact h.1
    · exact (Nat.le_div_iff_mul_le h.2).2 hup.1
  · unfold wor
    rw [if_neg (by omega), if_neg (by omega)]
    exact (Nat.div_lt_iff_lt_mul h.2).2 hup.2
theorem prt_mono (a : Nat) {p q : Int} (_ : 0 ≤ p) (h : p ≤ q) : prt a p ≤ prt a q := by
  unfold prt
  split
  · rw [if_pos (by omega)]; omega
  · split
    · rw [Nat.mul_comm]; exact div_le_of (by omega) (by omega)
    · exact Nat.div_le_div_right (Nat.mul_le_mul_left _ (by omega))
theorem wor_two {a b n m : Nat} (h : n + m ≤ b) : wor a b n + wor a b m ≤ wor a b (n + m) ∧ wor a b (n + m) ≤ wor a b n + wor a b m + 1 := by
  unfold wor
  by_cases hb : b = 0
  · simp [hb]
  · have hb0 : 0 < b := by omega
    rw [if_neg hb, if_neg hb, if_neg hb]
    have key : ∀ k, k ≤ b → (if b ≤ k then a else k * a / b) = k * a / b := by
      intro k hk
      split
      · obtain rfl : k = b := by omega
        rw [Nat.mul_div_cancel_left _ hb0]
      · rfl
    rw [key n (by omega), key m (by omega), key (n + m) h, Nat.add_mul]
    have h1 := Nat.div_add_mod (n * a) b
    have h2 := Nat.div_add_mod (m * a) b
    have h3 := Nat.mod_lt (n * a) hb0
    have h4 := Nat.mod_lt (m * a) hb0
    generalize n * a / b = q1 at *
    generalize m * a / b = q2 at *
    constructor
    · refine (Nat.le_div_iff_mul_le hb0).2 ?_
      rw [Nat.add_mul, Nat.mul_comm q1, Nat.mul_comm q2]; omega
    · refine Nat.le_of_lt_succ ((Nat.div_lt_iff_lt_mul hb0).2 ?_)
      rw [Nat.succ_mul, Nat.add_mul, Nat.add_mul, Nat.mul_comm q1, Nat.mul_comm q2]; omega
theorem wor_rest {a b c d : Nat} (h : c + d ≤ b) : wor a b d ≤ wor (a - wor a b c) (b - c) d := by
  by_cases hb : b = 0
  · unfold wor; simp [hb]
  · have hb0 : 0 < b := by omega
    have key : ∀ k, k ≤ b → wor a b k = k * a / b := by
      intro k hk
      unfold wor
      rw [if_neg hb]
      split
      · obtain rfl : k = b := by omega
        rw [Nat.mul_div_cancel_left _ hb0]
      · rfl
    by_cases hcb : b - c = 0
    · obtain rfl : d = 0 := by omega
      rw [key 0 (by omega), Nat.zero_mul, Nat.zero_div]
      exact Nat.zero_le _
    · have hbc : 0 < b - c := by omega
      have h1 := wor_two (a := a) (b := b) (n := c) (m := b - c) (by omega)
      rw [show c + (b - c) = b by omega, key b (Nat.le_refl _), Nat.mul_div_cancel_left _ hb0] at h1
      have hcle := wor_le a b c
      have hr : (b - c) * a ≤ (a - wor a b c) * b := by
        have h2 : wor a b c * b ≤ c * a := by
          rw [key c (by omega)]; exact Nat.div_mul_le_self _ _
        rw [Nat.sub_mul, Nat.sub_mul, Nat.mul_comm a b]
        exact Nat.sub_le_sub_left h2 _
      generalize a - wor a b c = r at *
      rw [key d (by omega)]
      unfold wor
      rw [if_neg hcb]
      split
      · obtain rfl : d = b - c := by omega
        refine Nat.le_of_lt_succ ((Nat.div_lt_iff_lt_mul hb0).2 ?_)
        rw [Nat.succ_mul]; omega
      · refine (Nat.le_div_iff_mul_le hbc).2 ?_
        have h3 : d * a / b * b ≤ d * a := Nat.div_mul_le_self _ _
        refine Nat.le_of_mul_le_mul_right (c := b) ?_ hb0
        calc d * a / b * (b - c) * b = d * a / b * b * (b - c) := Nat.mul_right_comm _ _ _
          _ ≤ d * a * (b - c) := Nat.mul_le_mul_right _ h3
          _ = d * ((b - c) * a) := by rw [Nat.mul_assoc, Nat.mul_comm a]
          _ ≤ d * (r * b) := Nat.mul_le_mul_left _ hr
          _ = d * r * b := (Nat.mul_assoc _ _ _).symm
theorem wor_loss {a b c n : Nat} (hn : n * a ≤ c * b) (hb : 0 < b) : wor (a + c) (b + n) n ≤ c := by
  unfold wor
  rw [if_neg (by omega), if_neg (by omega)]
  refine Nat.le_of_lt_succ ((Nat.div_lt_iff_lt_mul (by omega)).2 ?_)
  rw [Nat.succ_mul, Nat.mul_add, Nat.mul_add, Nat.mul_comm n c]
  omega
theorem wor_loss0 (c : Nat) : wor c c c ≤ c := wor_le _ _ _

theorem share_worths_owes {a b n : Nat} (ha : a < TOP) (hb : b < TOP) (hn : n < TOP) :
    Owes 15 [N a, N b, N n] [(True, .one (B true))] := by
  have ht := top_eq
  intro p0 hp0 hc
  simp only [List.mem_cons, List.not_mem_nil, or_false] at hp0
  subst hp0
  · have hc' : True := hc
    have hpl : (.one (B true) : Sv).all Av.plain := by ((first | refine tupP ?_ | refine oneP ?_) <;> first | (first | exact E_plain _ | exact B_plain _ | exact lit_plain _ _ | exact int_plain _ _ | exact N_plain (by omega) | exact N_plain2 (by omega) (by omega) | assumption) | ((repeat' (first | exact argsP_nil | refine argsP_cons ?_ ?_)) <;> (first | exact E_plain _ | exact B_plain _ | exact lit_plain _ _ | exact int_plain _ _ | exact N_plain (by omega) | exact N_plain2 (by omega) (by omega) | assumption)))
    refine ⟨hpl, pure_calls' (ctx_ok tW_ok 30) Try.func15 (c := bodyOf Try.f15) rfl rfl (args := [N a, N b, N n]) (Nat.le_of_ble_eq_true (by kernel_rfl)) (by ((repeat' (first | exact argsP_nil | refine argsP_cons ?_ ?_)) <;> (first | exact E_plain _ | exact B_plain _ | exact lit_plain _ _ | exact int_plain _ _ | exact N_plain (by omega) | exact N_plain2 (by omega) (by omega) | assumption))) hpl (fun w0 => ?_)⟩
    exact goes_ret (ctx_ok tW_ok 30) mixed rfl (orc := way []) (stops := []) (f := 3000) (k := [.code (bodyOf Try.f15)]) (o := .norm) (σ := (kn (argS 0 ([N a, N b, N n].map .one)) [])) (cs := [True, True, True, True, True, True, True, True, True, True, True, True, True, True, wor a b n = wor a b n, True, True, True, True, True, True, True, True, True, True, wor a b b = wor a b b, True, True]) (o' := .ret) (rs := Try.f15.results.toList) (v := (.one (B true))) (H := ([] : List (Nat × Bk))) (by kernel_rfl) (.inr rfl) (by ((simp only [conj, and_true, true_and, and_self, cmp_lt0, cmp_le0, cmp_ge0, cmp_gt0, reduceCtorEq, not_false_eq_true]) <;> first | omega | (simp_all; done) | (simp_all; omega))) fun _ _ => rfl

theorem share_news_owes {a b c : Nat} (ha : a < TOP) (hb : b < TOP) (hc : c < TOP) :
    Owes 20 [N a, N b, N c] [(True, .one (B true))] := by
  have ht := top_eq
  intro p0 hp0 hc
  simp only [List.mem_cons, List.not_mem_nil, or_false] at hp0
  subst hp0
  · have hc' : True := hc
    have hpl : (.one (B true) : Sv).all Av.plain := by ((first | refine tupP ?_ | refine oneP ?_) <;> first | (first | exact E_plain _ | exact B_plain _ | exact lit_plain _ _ | exact int_plain _ _ | exact N_plain (by omega) | exact N_plain2 (by omega) (by omega) | assumption) | ((repeat' (first | exact argsP_nil | refine argsP_cons ?_ ?_)) <;> (first | exact E_plain _ | exact B_plain _ | exact lit_plain _ _ | exact int_plain _ _ | exact N_plain (by omega) | exact N_plain2 (by omega) (by omega) | assumption)))
    refine ⟨hpl, pure_calls' (ctx_ok tW_ok 36) Try.func20 (c := bodyOf Try.f20) rfl rfl (args := [N a, N b, N c]) (Nat.le_of_ble_eq_true (by kernel_rfl)) (by ((repeat' (first | exact argsP_nil | refine argsP_cons ?_ ?_)) <;> (first | exact E_plain _ | exact B_plain _ | exact lit_plain _ _ | exact int_plain _ _ | exact N_plain (by omega) | exact N_plain2 (by omega) (by omega) | assumption))) hpl (fun w0 => ?_)⟩
    have hs : b = 0 ∨ (0 < b ∧ 0 < a ∧ c * b / a < TOP) ∨ (0 < b ∧ 0 < a ∧ TOP ≤ c * b / a) ∨ (0 < b ∧ a = 0) := by omega
    rcases hs with h | h | h | h
    · skip
      exact goes_ret (ctx_ok tW_ok 36) mixed rfl (orc := way []) (stops := []) (f := 3000) (k := [.code (bodyOf Try.f20)]) (o := .norm) (σ := (kn (argS 0 ([N a, N b, N c].map .one)) [])) (cs := [True, True, True, True, True, True, True, b = (0 : Nat), True, True, True, True, True, True, True, True, True, b = (0 : Nat), True, True, True, True, True, True, True, True, True, True, c = c, True, True, True, True, True, True, True]) (o' := .ret) (rs := Try.f20.results.toList) (v := (.one (B true))) (H := ([] : List (Nat × Bk))) (by kernel_rfl) (.inr rfl) (by ((simp only [conj, and_true, true_and, and_self, cmp_lt0, cmp_le0, cmp_ge0, cmp_gt0, reduceCtorEq, not_false_eq_true]) <;> first | omega | (simp_all; done) | (simp_all; omega))) fun _ _ => rfl
    · skip
      exact goes_ret (ctx_ok tW_ok 36) mixed rfl (orc := way [(15, 1), (22, 1)]) (stops := []) (f := 3000) (k := [.code (bodyOf Try.f20)]) (o := .norm) (σ := (kn (argS 0 ([N a, N b, N c].map .one)) [])) (cs := [True, True, True, True, True, True, True, (0 : Nat) < b ∧ (0 : Nat) < a ∧ c * b / a < TOP, True, True, True, True, True, True, True, True, True, (0 : Nat) < b ∧ (0 : Nat) < a ∧ c * b / a < TOP, True, True, True, True, True, True, True, True, True, True, c * b / a = c * b / a, True, True, True, True, True, True, True]) (o' := .ret) (rs := Try.f20.results.toList) (v := (.one (B true))) (H := ([] : List (Nat × Bk))) (by kernel_rfl) (.inr rfl) (by ((simp only [conj, and_true, true_and, and_self, cmp_lt0, cmp_le0, cmp_ge0, cmp_gt0, reduceCtorEq, not_false_eq_true]) <;> first | omega | (simp_all; done) | (simp_all; omega))) fun _ _ => rfl
    · skip
      exact goes_ret (ctx_ok tW_ok 36) mixed rfl (orc := way [(15, 2), (22, 2)]) (stops := []) (f := 3000) (k := [.code (bodyOf Try.f20)]) (o := .norm) (σ := (kn (argS 0 ([N a, N b, N c].map .one)) [])) (cs := [True, True, True, True, True, True, True, (0 : Nat) < b ∧ (0 : Nat) < a ∧ TOP ≤ c * b / a, True, True, True, True, True, True, True, True, True, (0 : Nat) < b ∧ (0 : Nat) < a ∧ TOP ≤ c * b / a, True, True, True, True, True, True, True, True, True, True, (0 : Nat) = (0 : Nat), True, True, True, True, True, True, True]) (o' := .ret) (rs := Try.f20.results.toList) (v := (.one (B true))) (H := ([] : List (Nat × Bk))) (by kernel_rfl) (.inr rfl) (by ((simp only [conj, and_true, true_and, and_self, cmp_lt0, cmp_le0, cmp_ge0, cmp_gt0, reduceCtorEq, not_false_eq_true]) <;> first | omega | (simp_all; done) | (simp_all; omega))) fun _ _ => rfl
    · skip
      exact goes_ret (ctx_ok tW_ok 36) mixed rfl (orc := way [(15, 3), (22, 3)]) (stops := []) (f := 3000) (k := [.code (bodyOf Try.f20)]) (o := .norm) (σ := (kn (argS 0 ([N a, N b, N c].map .one)) [])) (cs := [True, True, True, True, True, True, True, (0 : Nat) < b ∧ a = (0 : Nat), True, True, True, True, True, True, True, True, True, (0 : Nat) < b ∧ a = (0 : Nat), True, True, True, True, True, True, True, True, True, True, (0 : Nat) = (0 : Nat), True, True, True, True, True, True, True]) (o' := .ret) (rs := Try.f20.results.toList) (v := (.one (B true))) (H := ([] : List (Nat × Bk))) (by kernel_rfl) (.inr rfl) (by ((simp only [conj, and_true, true_and, and_self, cmp_lt0, cmp_le0, cmp_ge0, cmp_gt0, reduceCtorEq, not_false_eq_true]) <;> first | omega | (simp_all; done) | (simp_all; omega))) fun _ _ => rfl

theorem share_fewests_owes {a b c : Nat} (ha : a < TOP) (hb : b < TOP) (hc : c < TOP) :
    Owes 16 [N a, N b, N c] [(True, .one (B true))] := by
  have ht := top_eq
  intro p0 hp0 hc
  simp only [List.mem_cons, List.not_mem_nil, or_false] at hp0
  subst hp0
  · have hc' : True := hc
    have hpl : (.one (B true) : Sv).all Av.plain := by ((first | refine tupP ?_ | refine oneP ?_) <;> first | (first | exact E_plain _ | exact B_plain _ | exact lit_plain _ _ | exact int_plain _ _ | exact N_plain (by omega) | exact N_plain2 (by omega) (by omega) | assumption) | ((repeat' (first | exact argsP_nil | refine argsP_cons ?_ ?_)) <;> (first | exact E_plain _ | exact B_plain _ | exact lit_plain _ _ | exact int_plain _ _ | exact N_plain (by omega) | exact N_plain2 (by omega) (by omega) | assumption)))
    refine ⟨hpl, pure_calls' (ctx_ok tW_ok 75) Try.func16 (c := bodyOf Try.f16) rfl rfl (args := [N a, N b, N c]) (Nat.le_of_ble_eq_true (by kernel_rfl)) (by ((repeat' (first | exact argsP_nil | refine argsP_cons ?_ ?_)) <;> (first | exact E_plain _ | exact B_plain _ | exact lit_plain _ _ | exact int_plain _ _ | exact N_plain (by omega) | exact N_plain2 (by omega) (by omega) | assumption))) hpl (fun w0 => ?_)⟩
    have hs : c = 0 ∨ (0 < c ∧ c ≤ a ∧ 0 < b) ∨ (0 < c ∧ (a < c ∨ b = 0)) := by omega
    rcases hs with h | h | h
    · skip
      have h0 : few a b c = 0 := by unfold few; rw [if_pos h]
      exact goes_ret (ctx_ok tW_ok 75) mixed rfl (orc := way []) (stops := []) (f := 3000) (k := [.code (bodyOf Try.f16)]) (o := .norm) (σ := (kn (argS 0 ([N a, N b, N c].map .one)) [])) (cs := [True, True, True, True, True, True, True, c = (0 : Nat) ∨ c ≤ a ∧ (0 : Nat) < b, True, True, True, True, True, True, True, True, True, c = (0 : Nat) ∨ c ≤ a ∧ (0 : Nat) < b, True, True, True, True, True, True, True, True, few a b c = few a b c, True, True, True, True, True, True, True, True, True, True, c = (0 : Nat), True, True, True, True, True, few a b c = (0 : Nat), True, True]) (o' := .ret) (rs := Try.f16.results.toList) (v := (.one (B true))) (H := ([] : List (Nat × Bk))) (by kernel_rfl) (.inr rfl) (by ((simp only [conj, and_true, true_and, and_self, cmp_lt0, cmp_le0, cmp_ge0, cmp_gt0, reduceCtorEq, not_false_eq_true]) <;> first | omega | (simp_all; done) | (simp_all; omega))) fun _ _ => rfl
    · skip
      have hg := few_good h.1 h.2
      have hle := few_le (a := a) (b := b) (c := c) (.inr h.2)
      exact goes_ret (ctx_ok tW_ok 75) mixed rfl (orc := way [(39, 1)]) (stops := []) (f := 3000) (k := [.code (bodyOf Try.f16)]) (o := .norm) (σ := (kn (argS 0 ([N a, N b, N c].map .one)) [])) (cs := [True, True, True, True, True, True, True, c = (0 : Nat) ∨ c ≤ a ∧ (0 : Nat) < b, True, True, True, True, True, True, True, True, True, c = (0 : Nat) ∨ c ≤ a ∧ (0 : Nat) < b, True, True, True, True, True, True, True, True, few a b c = few a b c, True, True, True, True, True, True, True, True, True, True, ¬c = (0 : Nat), True, True, True, True, True, True, True, True, True, True, True, cmpN (few a b c) b ≤ (0 : Int), True, True, True, True, True, True, True, True, (0 : Int) ≤ cmpN (wor a b (few a b c)) c, True, True, True, True, True, True, True, True, cmpN (wor a b (few a b c - 1)) c < (0 : Int), True, True]) (o' := .ret) (rs := Try.f16.results.toList) (v := (.one (B true))) (H := ([] : List (Nat × Bk))) (by kernel_rfl) (.inr rfl) (by ((simp only [conj, and_true, true_and, and_self, cmp_lt0, cmp_le0, cmp_ge0, cmp_gt0, reduceCtorEq, not_false_eq_true]) <;> first | omega | (simp_all; done) | (simp_all; omega))) fun _ _ => rfl
    · skip
      exact goes_ret (ctx_ok tW_ok 75) mixed rfl (orc := way [(16, 1), (23, 1)]) (stops := []) (f := 3000) (k := [.code (bodyOf Try.f16)]) (o := .norm) (σ := (kn (argS 0 ([N a, N b, N c].map .one)) [])) (cs := [True, True, True, True, True, True, True, (0 : Nat) < c ∧ (a < c ∨ b = (0 : Nat)), True, True, True, True, True, True, True, True, True, (0 : Nat) < c ∧ (a < c ∨ b = (0 : Nat)), True, True, True, True, True, True, True, True, (0 : Nat) = (0 : Nat), True, True, True, True, True, True, True, True, True, True, True, True, True, True, True, True, (0 : Nat) = (0 : Nat), True, True]) (o' := .ret) (rs := Try.f16.results.toList) (v := (.one (B true))) (H := ([] : List (Nat × Bk))) (by kernel_rfl) (.inr rfl) (by ((simp only [conj, and_true, true_and, and_self, cmp_lt0, cmp_le0, cmp_ge0, cmp_gt0, reduceCtorEq, not_false_eq_true]) <;> first | omega | (simp_all; done) | (simp_all; omega))) fun _ _ => rfl

theorem share_parts_owes {a : Nat} {p q : Int} (ha : a < TOP) (hp : 0 ≤ p ∧ p < 65536) (hq : 0 ≤ q ∧ q < 65536) :
    Owes 17 [N a, [.int .u16 p], [.int .u16 q]] [(True, .one (B true))] := by
  have ht := top_eq
  have h1 := prt_le a hp.1
  intro p0 hp0 hc
  simp only [List.mem_cons, List.not_mem_nil, or_false] at hp0
  subst hp0
  · have hc' : True := hc
    have hpl : (.one (B true) : Sv).all Av.plain := by ((first | refine tupP ?_ | refine oneP ?_) <;> first | (first | exact E_plain _ | exact B_plain _ | exact lit_plain _ _ | exact int_plain _ _ | exact N_plain (by omega) | exact N_plain2 (by omega) (by omega) | assumption) | ((repeat' (first | exact argsP_nil | refine argsP_cons ?_ ?_)) <;> (first | exact E_plain _ | exact B_plain _ | exact lit_plain _ _ | exact int_plain _ _ | exact N_plain (by omega) | exact N_plain2 (by omega) (by omega) | assumption)))
    refine ⟨hpl, pure_calls' (ctx_ok tW_ok 50) Try.func17 (c := bodyOf Try.f17) rfl rfl (args := [N a, [.int .u16 p], [.int .u16 q]]) (Nat.le_of_ble_eq_true (by kernel_rfl)) (by ((repeat' (first | exact argsP_nil | refine argsP_cons ?_ ?_)) <;> (first | exact E_plain _ | exact B_plain _ | exact lit_plain _ _ | exact int_plain _ _ | exact N_plain (by omega) | exact N_plain2 (by omega) (by omega) | assumption))) hpl (fun w0 => ?_)⟩
    have h0 : prt a 0 = 0 := by unfold prt; simp
    have h2 : prt a 10000 = a := by unfold prt; simp
    by_cases h : p ≤ q
    · skip
      have hm := prt_mono a hp.1 h
      exact goes_ret (ctx_ok tW_ok 50) mixed rfl (orc := way [(28, 1)]) (stops := []) (f := 3000) (k := [.code (bodyOf Try.f17)]) (o := .norm) (σ := (kn (argS 0 ([N a, [.int .u16 p], [.int .u16 q]].map .one)) [])) (cs := [True, True, True, True, (0 : Int) ≤ p ∧ p < (65536 : Int), True, True, (0 : Int) ≤ q ∧ q < (65536 : Int), True, True, True, True, True, True, True, (0 : Int) ≤ p ∧ p < (65536 : Int), prt a p = prt a p, True, True, True, p ≤ q, True, True, True, True, ¬(0 : Int) < cmpN (prt a p) (prt a q), True, True, True, True, True, True, True, cmpN (prt a p) a ≤ (0 : Int), True, True, True, (0 : Int) ≤ (0 : Int) ∧ (0 : Int) < (65536 : Int), True, prt a (0 : Int) = (0 : Nat), True, True, True, (0 : Int) ≤ (10000 : Int) ∧ (10000 : Int) < (65536 : Int), True, prt a (10000 : Int) = a, True, True]) (o' := .ret) (rs := Try.f17.results.toList) (v := (.one (B true))) (H := ([] : List (Nat × Bk))) (by kernel_rfl) (.inr rfl) (by ((simp only [conj, and_true, true_and, and_self, cmp_lt0, cmp_le0, cmp_ge0, cmp_gt0, reduceCtorEq, not_false_eq_true]) <;> first | omega | (simp_all; done) | (simp_all; omega))) fun _ _ => rfl
    · skip
      exact goes_ret (ctx_ok tW_ok 50) mixed rfl (orc := way [(23, 1)]) (stops := []) (f := 3000) (k := [.code (bodyOf Try.f17)]) (o := .norm) (σ := (kn (argS 0 ([N a, [.int .u16 p], [.int .u16 q]].map .one)) [])) (cs := [True, True, True, True, (0 : Int) ≤ p ∧ p < (65536 : Int), True, True, (0 : Int) ≤ q ∧ q < (65536 : Int), True, True, True, True, True, True, True, (0 : Int) ≤ p ∧ p < (65536 : Int), prt a p = prt a p, True, True, True, ¬p ≤ q, True, True, True, True, True, True, True, True, True, True, True, True, cmpN (prt a p) a ≤ (0 : Int), True, True, True, (0 : Int) ≤ (0 : Int) ∧ (0 : Int) < (65536 : Int), True, prt a (0 : Int) = (0 : Nat), True, True, True, (0 : Int) ≤ (10000 : Int) ∧ (10000 : Int) < (65536 : Int), True, prt a (10000 : Int) = a, True, True]) (o' := .ret) (rs := Try.f17.results.toList) (v := (.one (B true))) (H := ([] : List (Nat × Bk))) (by kernel_rfl) (.inr rfl) (by ((simp only [conj, and_true, true_and, and_self, cmp_lt0, cmp_le0, cmp_ge0, cmp_gt0, reduceCtorEq, not_false_eq_true]) <;> first | omega | (simp_all; done) | (simp_all; omega))) fun _ _ => rfl

theorem share_splits_owes {a b c d : Nat} (ha : a < TOP) (hb : b < TOP) (hc : c < TOP) (hd : d < TOP) :
    Owes 18 [N a, N b, N c, N d] [(True, .one (B true))] := by
  have ht := top_eq
  have hwt : c + d ≤ b → _ := wor_two (a := a) (b := b) (n := c) (m := d)
  intro p0 hp0 hc
  simp only [List.mem_cons, List.not_mem_nil, or_false] at hp0
  subst hp0
  · have hc' : True := hc
    have hpl : (.one (B true) : Sv).all Av.plain := by ((first | refine tupP ?_ | refine oneP ?_) <;> first | (first | exact E_plain _ | exact B_plain _ | exact lit_plain _ _ | exact int_plain _ _ | exact N_plain (by omega) | exact N_plain2 (by omega) (by omega) | assumption) | ((repeat' (first | exact argsP_nil | refine argsP_cons ?_ ?_)) <;> (first | exact E_plain _ | exact B_plain _ | exact lit_plain _ _ | exact int_plain _ _ | exact N_plain (by omega) | exact N_plain2 (by omega) (by omega) | assumption)))
    refine ⟨hpl, pure_calls' (ctx_ok tW_ok 74) Try.func18 (c := bodyOf Try.f18) rfl rfl (args := [N a, N b, N c, N d]) (Nat.le_of_ble_eq_true (by kernel_rfl)) (by ((repeat' (first | exact argsP_nil | refine argsP_cons ?_ ?_)) <;> (first | exact E_plain _ | exact B_plain _ | exact lit_plain _ _ | exact int_plain _ _ | exact N_plain (by omega) | exact N_plain2 (by omega) (by omega) | assumption))) hpl (fun w0 => ?_)⟩
    have hwl := wor_le a b (c + d)
    have hs : TOP ≤ c + d ∨ (c + d < TOP ∧ b < c + d) ∨ (c + d < TOP ∧ c + d ≤ b ∧ wor a b c + wor a b d + 1 < TOP) ∨ (c + d < TOP ∧ c + d ≤ b ∧ TOP ≤ wor a b c + wor a b d + 1) := by omega
    rcases hs with h | h | h | h
    · skip
      exact goes_ret (ctx_ok tW_ok 74) mixed rfl (orc := way [(21, 1)]) (stops := []) (f := 3000) (k := [.code (bodyOf Try.f18)]) (o := .norm) (σ := (kn (argS 0 ([N a, N b, N c, N d].map .one)) [])) (cs := [True, True, True, True, True, True, True, TOP ≤ c + d, True, True, True, True, True, True, True, True, True, True, True, True, True, True, True, True]) (o' := .ret) (rs := Try.f18.results.toList) (v := (.one (B true))) (H := ([] : List (Nat × Bk))) (by kernel_rfl) (.inr rfl) (by ((simp only [conj, and_true, true_and, and_self, cmp_lt0, cmp_le0, cmp_ge0, cmp_gt0, reduceCtorEq, not_false_eq_true]) <;> first | omega | (simp_all; done) | (simp_all; omega))) fun _ _ => rfl
    · skip
      exact goes_ret (ctx_ok tW_ok 74) mixed rfl (orc := way []) (stops := []) (f := 3000) (k := [.code (bodyOf Try.f18)]) (o := .norm) (σ := (kn (argS 0 ([N a, N b, N c, N d].map .one)) [])) (cs := [True, True, True, True, True, True, True, c + d < TOP, True, True, True, True, True, True, True, True, True, True, True, True, (0 : Int) < cmpN (c + d) b, True, True, True]) (o' := .ret) (rs := Try.f18.results.toList) (v := (.one (B true))) (H := ([] : List (Nat × Bk))) (by kernel_rfl) (.inr rfl) (by ((simp only [conj, and_true, true_and, and_self, cmp_lt0, cmp_le0, cmp_ge0, cmp_gt0, reduceCtorEq, not_false_eq_true]) <;> first | omega | (simp_all; done) | (simp_all; omega))) fun _ _ => rfl
    · skip
      exact goes_ret (ctx_ok tW_ok 74) mixed rfl (orc := way [(30, 1)]) (stops := []) (f := 3000) (k := [.code (bodyOf Try.f18)]) (o := .norm) (σ := (kn (argS 0 ([N a, N b, N c, N d].map .one)) [])) (cs := [True, True, True, True, True, True, True, c + d < TOP, True, True, True, True, True, True, True, True, True, True, True, True, ¬(0 : Int) < cmpN (c + d) b, True, True, True, True, True, True, True, True, True, True, True, True, True, True, True, wor a b c + wor a b d < TOP, True, True, True, True, True, True, True, True, True, True, True, True, True, True, wor a b c + wor a b d + 1 < TOP, True, True, True, True, True, True, True, True, True, True, True, cmpN (wor a b c + wor a b d) (wor a b (c + d)) ≤ (0 : Int), True, True, True, True, True, True, True, True, cmpN (wor a b (c + d)) (wor a b c + wor a b d + 1) ≤ (0 : Int), True, True, True]) (o' := .ret) (rs := Try.f18.results.toList) (v := (.one (B true))) (H := ([] : List (Nat × Bk))) (by kernel_rfl) (.inr rfl) (by ((simp only [conj, and_true, true_and, and_self, cmp_lt0, cmp_le0, cmp_ge0, cmp_gt0, reduceCtorEq, not_false_eq_true]) <;> first | omega | (simp_all; done) | (simp_all; omega))) fun _ _ => rfl
    · skip
      exact goes_ret (ctx_ok tW_ok 74) mixed rfl (orc := way [(30, 1), (54, 1)]) (stops := []) (f := 3000) (k := [.code (bodyOf Try.f18)]) (o := .norm) (σ := (kn (argS 0 ([N a, N b, N c, N d].map .one)) [])) (cs := [True, True, True, True, True, True, True, c + d < TOP, True, True, True, True, True, True, True, True, True, True, True, True, ¬(0 : Int) < cmpN (c + d) b, True, True, True, True, True, True, True, True, True, True, True, True, True, True, True, wor a b c + wor a b d < TOP, True, True, True, True, True, True, True, True, True, True, True, True, True, True, TOP ≤ wor a b c + wor a b d + 1, True, True, True, True, True, True, True, True, True, True, True, cmpN (wor a b c + wor a b d) (wor a b (c + d)) ≤ (0 : Int), True, True, True, True, True, True, True, True, True, True, True, True]) (o' := .ret) (rs := Try.f18.results.toList) (v := (.one (B true))) (H := ([] : List (Nat × Bk))) (by kernel_rfl) (.inr rfl) (by ((simp only [conj, and_true, true_and, and_self, cmp_lt0, cmp_le0, cmp_ge0, cmp_gt0, reduceCtorEq, not_false_eq_true]) <;> first | omega | (simp_all; done) | (simp_all; omega))) fun _ _ => rfl

theorem share_rest_owes {a b c d : Nat} (ha : a < TOP) (hb : b < TOP) (hc : c < TOP) (hd : d < TOP) :
    Owes 19 [N a, N b, N c, N d] [(True, .one (B true))] := by
  have ht := top_eq
  have hwt : c + d ≤ b → _ := wor_rest (a := a) (b := b) (c := c) (d := d)
  intro p0 hp0 hc
  simp only [List.mem_cons, List.not_mem_nil, or_false] at hp0
  subst hp0
  · have hc' : True := hc
    have hpl : (.one (B true) : Sv).all Av.plain := by ((first | refine tupP ?_ | refine oneP ?_) <;> first | (first | exact E_plain _ | exact B_plain _ | exact lit_plain _ _ | exact int_plain _ _ | exact N_plain (by omega) | exact N_plain2 (by omega) (by omega) | assumption) | ((repeat' (first | exact argsP_nil | refine argsP_cons ?_ ?_)) <;> (first | exact E_plain _ | exact B_plain _ | exact lit_plain _ _ | exact int_plain _ _ | exact N_plain (by omega) | exact N_plain2 (by omega) (by omega) | assumption)))
    refine ⟨hpl, pure_calls' (ctx_ok tW_ok 50) Try.func19 (c := bodyOf Try.f19) rfl rfl (args := [N a, N b, N c, N d]) (Nat.le_of_ble_eq_true (by kernel_rfl)) (by ((repeat' (first | exact argsP_nil | refine argsP_cons ?_ ?_)) <;> (first | exact E_plain _ | exact B_plain _ | exact lit_plain _ _ | exact int_plain _ _ | exact N_plain (by omega) | exact N_plain2 (by omega) (by omega) | assumption))) hpl (fun w0 => ?_)⟩
    have hs : TOP ≤ c + d ∨ (c + d < TOP ∧ b < c + d) ∨ (c + d < TOP ∧ c + d ≤ b) := by omega
    rcases hs with h | h | h
    · skip
      exact goes_ret (ctx_ok tW_ok 50) mixed rfl (orc := way [(16, 1)]) (stops := []) (f := 3000) (k := [.code (bodyOf Try.f19)]) (o := .norm) (σ := (kn (argS 0 ([N a, N b, N c, N d].map .one)) [])) (cs := [True, True, True, True, True, True, True, TOP ≤ c + d, True, True, True, True, True, True, True, True, True, True, True, True, True, True, True, True]) (o' := .ret) (rs := Try.f19.results.toList) (v := (.one (B true))) (H := ([] : List (Nat × Bk))) (by kernel_rfl) (.inr rfl) (by ((simp only [conj, and_true, true_and, and_self, cmp_lt0, cmp_le0, cmp_ge0, cmp_gt0, reduceCtorEq, not_false_eq_true]) <;> first | omega | (simp_all; done) | (simp_all; omega))) fun _ _ => rfl
    · skip
      exact goes_ret (ctx_ok tW_ok 50) mixed rfl (orc := way []) (stops := []) (f := 3000) (k := [.code (bodyOf Try.f19)]) (o := .norm) (σ := (kn (argS 0 ([N a, N b, N c, N d].map .one)) [])) (cs := [True, True, True, True, True, True, True, c + d < TOP, True, True, True, True, True, True, True, True, True, True, True, True, (0 : Int) < cmpN (c + d) b, True, True, True]) (o' := .ret) (rs := Try.f19.results.toList) (v := (.one (B true))) (H := ([] : List (Nat × Bk))) (by kernel_rfl) (.inr rfl) (by ((simp only [conj, and_true, true_and, and_self, cmp_lt0, cmp_le0, cmp_ge0, cmp_gt0, reduceCtorEq, not_false_eq_true]) <;> first | omega | (simp_all; done) | (simp_all; omega))) fun _ _ => rfl
    · skip
      exact goes_ret (ctx_ok tW_ok 50) mixed rfl (orc := way [(25, 1)]) (stops := []) (f := 3000) (k := [.code (bodyOf Try.f19)]) (o := .norm) (σ := (kn (argS 0 ([N a, N b, N c, N d].map .one)) [])) (cs := [True, True, True, True, True, True, True, c + d < TOP, True, True, True, True, True, True, True, True, True, True, True, True, ¬(0 : Int) < cmpN (c + d) b, True, True, True, True, True, True, True, True, True, True, True, True, True, True, True, True, True, True, True, True, True, True, True, True, True, (0 : Int) ≤ cmpN (wor (a - wor a b c) (b - c) d) (wor a b d), True, True]) (o' := .ret) (rs := Try.f19.results.toList) (v := (.one (B true))) (H := ([] : List (Nat × Bk))) (by kernel_rfl) (.inr rfl) (by ((simp only [conj, and_true, true_and, and_self, cmp_lt0, cmp_le0, cmp_ge0, cmp_gt0, reduceCtorEq, not_false_eq_true]) <;> first | omega | (simp_all; done) | (simp_all; omega))) fun _ _ => rfl

theorem share_loss_owes {a b c : Nat} (ha : a < TOP) (hb : b < TOP) (hc : c < TOP) :
    Owes 21 [N a, N b, N c] [(True, .one (B true))] := by
  have ht := top_eq
  intro p0 hp0 hc
  simp only [List.mem_cons, List.not_mem_nil, or_false] at hp0
  subst hp0
  · have hc' : True := hc
    have hpl : (.one (B true) : Sv).all Av.plain := by ((first | refine tupP ?_ | refine oneP ?_) <;> first | (first | exact E_plain _ | exact B_plain _ | exact lit_plain _ _ | exact int_plain _ _ | exact N_plain (by omega) | exact N_plain2 (by omega) (by omega) | assumption) | ((repeat' (first | exact argsP_nil | refine argsP_cons ?_ ?_)) <;> (first | exact E_plain _ | exact B_plain _ | exact lit_plain _ _ | exact int_plain _ _ | exact N_plain (by omega) | exact N_plain2 (by omega) (by omega) | assumption)))
    refine ⟨hpl, pure_calls' (ctx_ok tW_ok 75) Try.func21 (c := bodyOf Try.f21) rfl rfl (args := [N a, N b, N c]) (Nat.le_of_ble_eq_true (by kernel_rfl)) (by ((repeat' (first | exact argsP_nil | refine argsP_cons ?_ ?_)) <;> (first | exact E_plain _ | exact B_plain _ | exact lit_plain _ _ | exact int_plain _ _ | exact N_plain (by omega) | exact N_plain2 (by omega) (by omega) | assumption))) hpl (fun w0 => ?_)⟩
    have hs : (0 < b ∧ 0 < a ∧ TOP ≤ c * b / a) ∨ (0 < b ∧ a = 0) ∨ (b = 0 ∧ TOP ≤ a + c) ∨ (b = 0 ∧ a + c < TOP ∧ 0 < a) ∨ (b = 0 ∧ a = 0) ∨ (0 < b ∧ 0 < a ∧ c * b / a < TOP ∧ TOP ≤ a + c ∧ b + c * b / a < TOP) ∨ (0 < b ∧ 0 < a ∧ c * b / a < TOP ∧ TOP ≤ a + c ∧ TOP ≤ b + c * b / a) ∨ (0 < b ∧ 0 < a ∧ c * b / a < TOP ∧ a + c < TOP ∧ TOP ≤ b + c * b / a) ∨ (0 < b ∧ 0 < a ∧ c * b / a < TOP ∧ a + c < TOP ∧ b + c * b / a < TOP) := by omega
    rcases hs with h | h | h | h | h | h | h | h | h
    · skip
      exact goes_ret (ctx_ok tW_ok 75) mixed rfl (orc := way [(17, 2)]) (stops := []) (f := 3000) (k := [.code (bodyOf Try.f21)]) (o := .norm) (σ := (kn (argS 0 ([N a, N b, N c].map .one)) [])) (cs := [True, True, True, True, True, True, True, (0 : Nat) < b ∧ (0 : Nat) < a ∧ TOP ≤ c * b / a, True, True, True, True, True, True, True, True, True, True, True, True, True, True, True, True, True, True, True, True, True, True, True]) (o' := .ret) (rs := Try.f21.results.toList) (v := (.one (B true))) (H := ([] : List (Nat × Bk))) (by kernel_rfl) (.inr rfl) (by ((simp only [conj, and_true, true_and, and_self, cmp_lt0, cmp_le0, cmp_ge0, cmp_gt0, reduceCtorEq, not_false_eq_true]) <;> first | omega | (simp_all; done) | (simp_all; omega))) fun _ _ => rfl
    · skip
      exact goes_ret (ctx_ok tW_ok 75) mixed rfl (orc := way [(17, 3)]) (stops := []) (f := 3000) (k := [.code (bodyOf Try.f21)]) (o := .norm) (σ := (kn (argS 0 ([N a, N b, N c].map .one)) [])) (cs := [True, True, True, True, True, True, True, (0 : Nat) < b ∧ a = (0 : Nat), True, True, True, True, True, True, True, True, True, True, True, True, True, True, True, True, True, True, a = (0 : Nat), True, True, True, True]) (o' := .ret) (rs := Try.f21.results.toList) (v := (.one (B true))) (H := ([] : List (Nat × Bk))) (by kernel_rfl) (.inr rfl) (by ((simp only [conj, and_true, true_and, and_self, cmp_lt0, cmp_le0, cmp_ge0, cmp_gt0, reduceCtorEq, not_false_eq_true]) <;> first | omega | (simp_all; done) | (simp_all; omega))) fun _ _ => rfl
    · skip
      exact goes_ret (ctx_ok tW_ok 75) mixed rfl (orc := way [(39, 1)]) (stops := []) (f := 3000) (k := [.code (bodyOf Try.f21)]) (o := .norm) (σ := (kn (argS 0 ([N a, N b, N c].map .one)) [])) (cs := [True, True, True, True, True, True, True, b = (0 : Nat), True, True, True, True, True, True, True, True, True, True, TOP ≤ a + c, True, True, True, True, True, True, True, True, b + c < TOP, True, True, True, True, True, True, True, True, True, True, True, True, True, True, True, True, True, True, True, True, True, True, True, True]) (o' := .ret) (rs := Try.f21.results.toList) (v := (.one (B true))) (H := ([] : List (Nat × Bk))) (by kernel_rfl) (.inr rfl) (by ((simp only [conj, and_true, true_and, and_self, cmp_lt0, cmp_le0, cmp_ge0, cmp_gt0, reduceCtorEq, not_false_eq_true]) <;> first | omega | (simp_all; done) | (simp_all; omega))) fun _ _ => rfl
    · skip
      exact goes_ret (ctx_ok tW_ok 75) mixed rfl (orc := way [(61, 1)]) (stops := []) (f := 3000) (k := [.code (bodyOf Try.f21)]) (o := .norm) (σ := (kn (argS 0 ([N a, N b, N c].map .one)) [])) (cs := [True, True, True, True, True, True, True, b = (0 : Nat), True, True, True, True, True, True, True, True, True, True, a + c < TOP, True, True, True, True, True, True, True, True, b + c < TOP, True, True, True, True, True, True, True, True, True, True, True, True, True, True, True, b = (0 : Nat), True, True, True, ¬a = (0 : Nat), True, True, True, True]) (o' := .ret) (rs := Try.f21.results.toList) (v := (.one (B true))) (H := ([] : List (Nat × Bk))) (by kernel_rfl) (.inr rfl) (by ((simp only [conj, and_true, true_and, and_self, cmp_lt0, cmp_le0, cmp_ge0, cmp_gt0, reduceCtorEq, not_false_eq_true]) <;> first | omega | (simp_all; done) | (simp_all; omega))) fun _ _ => rfl
    · skip
      have e : wor (a + c) (b + c) c ≤ c := by rw [h.1, h.2, Nat.zero_add]; exact wor_le _ _ _
      exact goes_ret (ctx_ok tW_ok 75) mixed rfl (orc := way []) (stops := []) (f := 3000) (k := [.code (bodyOf Try.f21)]) (o := .norm) (σ := (kn (argS 0 ([N a, N b, N c].map .one)) [])) (cs := [True, True, True, True, True, True, True, b = (0 : Nat), True, True, True, True, True, True, True, True, True, True, a + c < TOP, True, True, True, True, True, True, True, True, b + c < TOP, True, True, True, True, True, True, True, True, True, True, True, True, True, True, True, b = (0 : Nat), True, True, True, a = (0 : Nat), True, True, True, True, True, True, True, True, True, True, cmpN (wor (a + c) (b + c) c) c ≤ (0 : Int), True, True]) (o' := .ret) (rs := Try.f21.results.toList) (v := (.one (B true))) (H := ([] : List (Nat × Bk))) (by kernel_rfl) (.inr rfl) (by ((simp only [conj, and_true, true_and, and_self, cmp_lt0, cmp_le0, cmp_ge0, cmp_gt0, reduceCtorEq, not_false_eq_true]) <;> first | omega | (simp_all; done) | (simp_all; omega))) fun _ _ => rfl
    · skip
      exact goes_ret (ctx_ok tW_ok 75) mixed rfl (orc := way [(17, 1), (39, 1)]) (stops := []) (f := 3000) (k := [.code (bodyOf Try.f21)]) (o := .norm) (σ := (kn (argS 0 ([N a, N b, N c].map .one)) [])) (cs := [True, True, True, True, True, True, True, (0 : Nat) < b ∧ (0 : Nat) < a ∧ c * b / a < TOP, True, True, True, True, True, True, True, True, True, True, TOP ≤ a + c, True, True, True, True, True, True, True, True, b + c * b / a < TOP, True, True, True, True, True, True, True, True, True, True, True, True, True, True, True, True, True, True, True, True, True, True, True, True]) (o' := .ret) (rs := Try.f21.results.toList) (v := (.one (B true))) (H := ([] : List (Nat × Bk))) (by kernel_rfl) (.inr rfl) (by ((simp only [conj, and_true, true_and, and_self, cmp_lt0, cmp_le0, cmp_ge0, cmp_gt0, reduceCtorEq, not_false_eq_true]) <;> first | omega | (simp_all; done) | (simp_all; omega))) fun _ _ => rfl
    · skip
      exact goes_ret (ctx_ok tW_ok 75) mixed rfl (orc := way [(17, 1), (39, 1), (45, 1)]) (stops := []) (f := 3000) (k := [.code (bodyOf Try.f21)]) (o := .norm) (σ := (kn (argS 0 ([N a, N b, N c].map .one)) [])) (cs := [True, True, True, True, True, True, True, (0 : Nat) < b ∧ (0 : Nat) < a ∧ c * b / a < TOP, True, True, True, True, True, True, True, True, True, True, TOP ≤ a + c, True, True, True, True, True, True, True, True, TOP ≤ b + c * b / a, True, True, True, True, True, True, True, True, True, True, True, True, True, True, True, True, True, True, True, True, True, True, True, True]) (o' := .ret) (rs := Try.f21.results.toList) (v := (.one (B true))) (H := ([] : List (Nat × Bk))) (by kernel_rfl) (.inr rfl) (by ((simp only [conj, and_true, true_and, and_self, cmp_lt0, cmp_le0, cmp_ge0, cmp_gt0, reduceCtorEq, not_false_eq_true]) <;> first | omega | (simp_all; done) | (simp_all; omega))) fun _ _ => rfl
    · skip
      exact goes_ret (ctx_ok tW_ok 75) mixed rfl (orc := way [(17, 1), (45, 1)]) (stops := []) (f := 3000) (k := [.code (bodyOf Try.f21)]) (o := .norm) (σ := (kn (argS 0 ([N a, N b, N c].map .one)) [])) (cs := [True, True, True, True, True, True, True, (0 : Nat) < b ∧ (0 : Nat) < a ∧ c * b / a < TOP, True, True, True, True, True, True, True, True, True, True, a + c < TOP, True, True, True, True, True, True, True, True, TOP ≤ b + c * b / a, True, True, True, True, True, True, True, True, True, True, True, True, True, True, True, True, True, True, True, True, True, True, True, True]) (o' := .ret) (rs := Try.f21.results.toList) (v := (.one (B true))) (H := ([] : List (Nat × Bk))) (by kernel_rfl) (.inr rfl) (by ((simp only [conj, and_true, true_and, and_self, cmp_lt0, cmp_le0, cmp_ge0, cmp_gt0, reduceCtorEq, not_false_eq_true]) <;> first | omega | (simp_all; done) | (simp_all; omega))) fun _ _ => rfl
    · skip
      have e : wor (a + c) (b + c * b / a) (c * b / a) ≤ c := wor_loss (Nat.div_mul_le_self _ _) h.1
      exact goes_ret (ctx_ok tW_ok 75) mixed rfl (orc := way [(17, 1), (57, 1)]) (stops := []) (f := 3000) (k := [.code (bodyOf Try.f21)]) (o := .norm) (σ := (kn (argS 0 ([N a, N b, N c].map .one)) [])) (cs := [True, True, True, True, True, True, True, (0 : Nat) < b ∧ (0 : Nat) < a ∧ c * b / a < TOP, True, True, True, True, True, True, True, True, True, True, a + c < TOP, True, True, True, True, True, True, True, True, b + c * b / a < TOP, True, True, True, True, True, True, True, True, True, True, True, True, True, True, True, ¬b = (0 : Nat), True, True, True, True, True, True, True, True, True, True, True, True, True, True, cmpN (wor (a + c) (b + c * b / a) (c * b / a)) c ≤ (0 : Int), True, True]) (o' := .ret) (rs := Try.f21.results.toList) (v := (.one (B true))) (H := ([] : List (Nat × Bk))) (by kernel_rfl) (.inr rfl) (by ((simp only [conj, and_true, true_and, and_self, cmp_lt0, cmp_le0, cmp_ge0, cmp_gt0, reduceCtorEq, not_false_eq_true]) <;> first | omega | (simp_all; done) | (simp_all; omega))) fun _ _ => rfl

end M
end Go.Proofs.Ytmjdmhelmgcanaa
