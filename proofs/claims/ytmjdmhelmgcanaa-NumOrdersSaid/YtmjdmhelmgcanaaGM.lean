/- Joined out of smaller texts: Wi, Ord. -/
import Derived.Test.YtmjdmhelmgcanaaGK
/- The law's wide: which product is more. -/
namespace Go.Proofs.Ytmjdmhelmgcanaa
namespace M
open Go.RowKit
set_option linter.unusedSimpArgs false

def wiA (a b c d : Nat) : List (Nat × Sv) := argS 0 [.one (N a), .one (N b), .one (N c), .one (N d)]
def wiS (i : Int) : List (Nat × Sv) := [(9, .one [.sl 14 1 0 32]), (10, .one [.sl 17 1 0 32]), (11, .one [.int .i64 i])]
def tF : List Entry := ⟨77, 1, pcon (k4 fun a b c d => [(a * b ≤ c * d, .one (B true)), (c * d < a * b, .one (B false))])⟩ :: tN
def wiH (F G : Nat → Nat) : List (Nat × Bk) := [(14, .row true 26 1 32 (rowN F)), (17, .row true 26 1 32 (rowN G))]

theorem wi_goes {w0 : Base} {a b c d : Nat} (ha : a < TOP) (hb : b < TOP) (hc : c < TOP) (hd : d < TOP) : Goes Try.prog Try.f77.ntmps w0 [.code (bodyOf Try.f77)] .norm (kn (wiA a b c d) [])
    (Fin (ctx tN 43) Try.f77.results.toList fun v _ => v = .one (B (decide (a * b ≤ c * d)))) := by
  have e1 := dg_fold (prod_lt ha hb)
  have e2 := dg_fold (prod_lt hc hd)
  refine (goes (ctx_ok tN_ok 43) mixed rfl (gs := []) (gh := []) (orc := way []) (stops := [0]) (f := 3000) (k := [.code (bodyOf Try.f77)]) (o := .norm) (σ := (kn (wiA a b c d) [])) (cs := [True, True, True, True, True, True, True, True, True, True, True, True, True, True, True, (-9223372036854775808 : Int) ≤ (↑(32 : Nat) : Int) - (1 : Int) ∧ (↑(32 : Nat) : Int) - (1 : Int) < (9223372036854775808 : Int), True]) (k' := (kOf 0 (bodyOf Try.f77))) (o' := .norm) (S := (wiS 31)) (H := (wiH (dg (a * b)) (dg (c * d)))) (by kernel_rfl) (by kernel_rfl) (by simp [conj])).bind ?_
  rintro k o σ ⟨rfl, rfl, rfl⟩
  have hF : ∀ i, i < 32 → dg (a * b) i < 65536 := fun i _ => dg_lt _ i
  have hG : ∀ i, i < 32 → dg (c * d) i < 65536 := fun i _ => dg_lt _ i
  rw [← e1, ← e2]
  rw [e1, e2]
  have hR : decide (a * b ≤ c * d) = decide (num (dg (a * b)) 32 ≤ num (dg (c * d)) 32) := by rw [e1, e2]
  rw [hR]
  clear hR e1 e2
  generalize dg (a * b) = F at *
  generalize dg (c * d) = G at *
  have hk : kOf 0 (bodyOf Try.f77) = .code (.block 0 (.loop (roundOf 0 (bodyOf Try.f77)))) :: restOf 0 (bodyOf Try.f77) := by kernel_rfl
  rw [hk]
  refine (goes_loop (fun i : Int => kn (wiS i) (wiH F G)) (fun i => -1 ≤ i ∧ i ≤ 31 ∧ ∀ k : Nat, i < k → k < 32 → F k = G k) (fun i => (i + 1).toNat)
    (fun o σ => (o = .norm ∧ σ = kn (wiS (-1)) (wiH F G) ∧ num F 32 = num G 32) ∨ (o = .ret ∧ ∃ l, σ = kn [(8, .one (B l))] (wiH F G) ∧ l = decide (num F 32 ≤ num G 32))) ?_ (p := 31) ⟨by omega, by omega, fun k h1 h2 => by omega⟩).bind ?_
  · rintro i ⟨h1, h2, h3⟩
    by_cases hi : i < 0
    · obtain rfl : i = -1 := by omega
      refine (goes (ctx_ok tN_ok 43) mixed rfl (gs := []) (gh := []) (orc := way [(22, 1)]) (stops := []) (f := 3000) (k := [.code (roundOf 0 (bodyOf Try.f77))]) (o := .norm) (σ := (kn (wiS (-1)) (wiH F G))) (cs := [True, ¬(0 : Int) ≤ (-1 : Int)]) (k' := []) (o' := (.exit 0)) (S := (wiS (-1))) (H := (wiH F G)) (by kernel_rfl) (by kernel_rfl) (by simp [conj])).mono ?_
      rintro k o σ ⟨rfl, rfl, rfl⟩
      exact ⟨rfl, .inr ⟨by simp, .inl ⟨rfl, rfl, num_congr fun k hk => h3 k (by omega) hk⟩⟩⟩
    · obtain ⟨m, rfl⟩ := Int.eq_ofNat_of_zero_le (Int.not_lt.1 hi)
      have f1 := hF m (by omega)
      have g1 := hG m (by omega)
      by_cases he : F m = G m
      · refine (goes (ctx_ok tN_ok 43) mixed rfl (gs := []) (gh := []) (orc := way [(33, 1)]) (stops := []) (f := 3000) (k := [.code (roundOf 0 (bodyOf Try.f77))]) (o := .norm) (σ := (kn (wiS (m : Int)) (wiH F G))) (cs := [True, (0 : Int) ≤ (↑m : Int), True, True, (0 : Int) ≤ (↑m : Int) ∧ (↑m : Int) < (↑(32 : Nat) : Int), addO (0 : Nat) m < (32 : Nat), True, True, (0 : Int) ≤ (↑m : Int) ∧ (↑m : Int) < (↑(32 : Nat) : Int), addO (0 : Nat) m < (32 : Nat), ¬(↑(F (addO (0 : Nat) (Int.toNat (Prod.snd (IntKind.i64, (↑m : Int)))))) : Int) ≠ (↑(G (addO (0 : Nat) (Int.toNat (Prod.snd (IntKind.i64, (↑m : Int)))))) : Int), True, (-9223372036854775808 : Int) ≤ (↑m : Int) - (1 : Int) ∧ (↑m : Int) - (1 : Int) < (9223372036854775808 : Int), True]) (k' := []) (o' := .norm) (S := (wiS ((m : Int) - 1))) (H := (wiH F G)) (by kernel_rfl) (by kernel_rfl) (by simp only [conj, and_true, true_and, addO_eq, Nat.zero_add, Int.toNat_natCast, he]; omega)).mono ?_
        rintro k o σ ⟨rfl, rfl, rfl⟩
        refine ⟨rfl, .inl ⟨rfl, (m : Int) - 1, ⟨by omega, by omega, fun k hk hk2 => ?_⟩, by omega, rfl⟩⟩
        by_cases e : k = m
        · subst e; exact he
        · exact h3 k (by omega) hk2
      · rcases Nat.lt_or_ge (F m) (G m) with hl | hl
        · refine (goes (ctx_ok tN_ok 43) mixed rfl (gs := []) (gh := []) (orc := way []) (stops := []) (f := 3000) (k := [.code (roundOf 0 (bodyOf Try.f77))]) (o := .norm) (σ := (kn (wiS (m : Int)) (wiH F G))) (cs := [True, (0 : Int) ≤ (↑m : Int), True, True, (0 : Int) ≤ (↑m : Int) ∧ (↑m : Int) < (↑(32 : Nat) : Int), addO (0 : Nat) m < (32 : Nat), True, True, (0 : Int) ≤ (↑m : Int) ∧ (↑m : Int) < (↑(32 : Nat) : Int), addO (0 : Nat) m < (32 : Nat), (↑(F (addO (0 : Nat) (Int.toNat (Prod.snd (IntKind.i64, (↑m : Int)))))) : Int) ≠ (↑(G (addO (0 : Nat) (Int.toNat (Prod.snd (IntKind.i64, (↑m : Int)))))) : Int), True, True, (0 : Int) ≤ (↑m : Int) ∧ (↑m : Int) < (↑(32 : Nat) : Int), addO (0 : Nat) m < (32 : Nat), True, True, (0 : Int) ≤ (↑m : Int) ∧ (↑m : Int) < (↑(32 : Nat) : Int), addO (0 : Nat) m < (32 : Nat), (↑(F (addO (0 : Nat) (Int.toNat (Prod.snd (IntKind.i64, (↑m : Int)))))) : Int) < (↑(G (addO (0 : Nat) (Int.toNat (Prod.snd (IntKind.i64, (↑m : Int)))))) : Int), True]) (k' := []) (o' := .ret) (S := [(8, .one (B true))]) (H := (wiH F G)) (by kernel_rfl) (by kernel_rfl) (by simp only [conj, and_true, true_and, addO_eq, Nat.zero_add, Int.toNat_natCast]; omega)).mono ?_
          rintro k o σ ⟨rfl, rfl, rfl⟩
          refine ⟨rfl, .inr ⟨by simp, .inr ⟨rfl, true, rfl, ?_⟩⟩⟩
          have := num_top hF (by omega : m < 32) (fun k hk hk2 => h3 k (by omega) hk2) hl
          simp only [Bool.true_eq, decide_eq_true_eq]; omega
        · refine (goes (ctx_ok tN_ok 43) mixed rfl (gs := []) (gh := []) (orc := way [(42, 1)]) (stops := []) (f := 3000) (k := [.code (roundOf 0 (bodyOf Try.f77))]) (o := .norm) (σ := (kn (wiS (m : Int)) (wiH F G))) (cs := [True, (0 : Int) ≤ (↑m : Int), True, True, (0 : Int) ≤ (↑m : Int) ∧ (↑m : Int) < (↑(32 : Nat) : Int), addO (0 : Nat) m < (32 : Nat), True, True, (0 : Int) ≤ (↑m : Int) ∧ (↑m : Int) < (↑(32 : Nat) : Int), addO (0 : Nat) m < (32 : Nat), (↑(F (addO (0 : Nat) (Int.toNat (Prod.snd (IntKind.i64, (↑m : Int)))))) : Int) ≠ (↑(G (addO (0 : Nat) (Int.toNat (Prod.snd (IntKind.i64, (↑m : Int)))))) : Int), True, True, (0 : Int) ≤ (↑m : Int) ∧ (↑m : Int) < (↑(32 : Nat) : Int), addO (0 : Nat) m < (32 : Nat), True, True, (0 : Int) ≤ (↑m : Int) ∧ (↑m : Int) < (↑(32 : Nat) : Int), addO (0 : Nat) m < (32 : Nat), ¬(↑(F (addO (0 : Nat) (Int.toNat (Prod.snd (IntKind.i64, (↑m : Int)))))) : Int) < (↑(G (addO (0 : Nat) (Int.toNat (Prod.snd (IntKind.i64, (↑m : Int)))))) : Int), True]) (k' := []) (o' := .ret) (S := [(8, .one (B false))]) (H := (wiH F G)) (by kernel_rfl) (by kernel_rfl) (by simp only [conj, and_true, true_and, addO_eq, Nat.zero_add, Int.toNat_natCast]; omega)).mono ?_
          rintro k o σ ⟨rfl, rfl, rfl⟩
          refine ⟨rfl, .inr ⟨by simp, .inr ⟨rfl, false, rfl, ?_⟩⟩⟩
          have := num_top hG (by omega : m < 32) (fun k hk hk2 => (h3 k (by omega) hk2).symm) (by omega)
          simp only [Bool.false_eq, decide_eq_false_iff_not]; omega
  · rintro k o σ ⟨rfl, ⟨rfl, rfl, he⟩ | ⟨rfl, l, rfl, hl⟩⟩
    · have : decide (num F 32 ≤ num G 32) = true := by rw [he]; simp
      rw [this]
      exact goes_ret (ctx_ok tN_ok 43) mixed rfl (orc := way []) (stops := []) (f := 3000) (k := (restOf 0 (bodyOf Try.f77))) (o := .norm) (σ := (kn (wiS (-1)) (wiH F G))) (cs := [True]) (o' := .ret) (rs := Try.f77.results.toList) (v := (.one (B true))) (H := ([] : List (Nat × Bk))) (by kernel_rfl) (.inr rfl) (by simp [conj]) fun _ _ => rfl
    · rw [← hl]
      exact goes_ret (ctx_ok tN_ok 43) mixed rfl (orc := way []) (stops := []) (f := 3000) (k := (restOf 0 (bodyOf Try.f77))) (o := .ret) (σ := (kn [(8, .one (B l))] (wiH F G))) (cs := []) (o' := .ret) (rs := Try.f77.results.toList) (v := (.one (B l))) (H := ([] : List (Nat × Bk))) (by kernel_rfl) (.inr rfl) (by simp [conj]) fun _ _ => rfl

def wiK (a b c d : Nat) : List (Prop × Sv) := [(a * b ≤ c * d, .one (B true)), (c * d < a * b, .one (B false))]
theorem wi_e : EOK ⟨77, 1, pcon (k4 wiK)⟩ := k4_ok (fun a w => Try.call77 a w) fun a b c d ha hb hc hd p hp hq => by
  have hv : p.2 = .one (B (decide (a * b ≤ c * d))) := by
    simp only [wiK, List.mem_cons, List.not_mem_nil, or_false] at hp
    rcases hp with rfl | rfl
    · have h : a * b ≤ c * d := hq
      simp [h]
    · have h : c * d < a * b := hq
      simp [Nat.not_le.2 h]
  rw [hv]
  have hpl : (Sv.one (B (decide (a * b ≤ c * d)))).all Av.plain := B_plain _
  exact ⟨hpl, pure_calls' (ctx_ok tN_ok 43) Try.func77 (c := bodyOf Try.f77) rfl rfl (args := [N a, N b, N c, N d]) (Nat.le_of_ble_eq_true (by kernel_rfl)) (by ((repeat' (first | exact argsP_nil | refine argsP_cons ?_ ?_)) <;> (first | exact E_plain _ | exact B_plain _ | exact lit_plain _ _ | exact int_plain _ _ | exact N_plain (by omega) | exact N_plain2 (by omega) (by omega) | assumption))) hpl (fun w0 => wi_goes ha hb hc hd)⟩

theorem tF_ok : TabOK tF := .cons wi_e tN_ok

theorem up_mul {a c : Nat} (h0 : 0 < c) : a ≤ up a c * c := by
  have h1 := Nat.div_add_mod a c
  have h2 := Nat.mod_lt a h0
  by_cases hr : a % c = 0
  · rw [up_zero h0 hr, Nat.mul_comm]; omega
  · rw [up_more h0 hr, Nat.add_mul, Nat.mul_comm (a / c)]; omega


theorem num_floors_owes {x y z : Nat} (hx : x < TOP) (hy : y < TOP) (hz : z < TOP) :
    Owes 25 [N x, N y, N z] [(True, .one (B true))] := by
  have ht := top_eq
  intro p0 hp0 hc
  simp only [List.mem_cons, List.not_mem_nil, or_false] at hp0
  subst hp0
  · have hc' : True := hc
    have hpl : (.one (B true) : Sv).all Av.plain := by ((first | refine tupP ?_ | refine oneP ?_) <;> first | (first | exact E_plain _ | exact B_plain _ | exact lit_plain _ _ | exact int_plain _ _ | exact N_plain (by omega) | exact N_plain2 (by omega) (by omega) | assumption) | ((repeat' (first | exact argsP_nil | refine argsP_cons ?_ ?_)) <;> (first | exact E_plain _ | exact B_plain _ | exact lit_plain _ _ | exact int_plain _ _ | exact N_plain (by omega) | exact N_plain2 (by omega) (by omega) | assumption)))
    refine ⟨hpl, pure_calls' (ctx_ok tF_ok 100) Try.func25 (c := bodyOf Try.f25) rfl rfl (args := [N x, N y, N z]) (Nat.le_of_ble_eq_true (by kernel_rfl)) (by ((repeat' (first | exact argsP_nil | refine argsP_cons ?_ ?_)) <;> (first | exact E_plain _ | exact B_plain _ | exact lit_plain _ _ | exact int_plain _ _ | exact N_plain (by omega) | exact N_plain2 (by omega) (by omega) | assumption))) hpl (fun w0 => ?_)⟩
    have hs : z = 0 ∨ (0 < z ∧ TOP ≤ x * y / z) ∨ (0 < z ∧ x * y / z < TOP ∧ TOP ≤ x * y / z + 1 ∧ x * y % z = 0) ∨ (0 < z ∧ x * y / z < TOP ∧ TOP ≤ x * y / z + 1 ∧ x * y % z ≠ 0) ∨ (0 < z ∧ x * y / z + 1 < TOP ∧ x * y % z = 0) ∨ (0 < z ∧ x * y / z + 1 < TOP ∧ x * y % z ≠ 0) := by omega
    have h1 : x * y / z * z ≤ x * y := Nat.div_mul_le_self _ _
    have h2 : 0 < z → x * y < (x * y / z + 1) * z := fun h => Nat.lt_mul_of_div_lt (Nat.lt_succ_self _) h
    have h3 : 0 < z → x * y ≤ up (x * y) z * z := up_mul
    have h4 : 0 < z → x * y % z = 0 → up (x * y) z = x * y / z := up_zero
    have h5 : 0 < z → x * y % z ≠ 0 → up (x * y) z = x * y / z + 1 := up_more
    have h6 : x * y % z ≠ 0 → x * y / z * z < x * y := fun h => by
      have := Nat.div_add_mod (x * y) z
      rw [Nat.mul_comm z] at this
      omega
    rcases hs with h | h | h | h | h | h
    · skip
      exact goes_ret (ctx_ok tF_ok 100) mixed rfl (orc := way [(17, 2), (24, 2)]) (stops := []) (f := 3000) (k := [.code (bodyOf Try.f25)]) (o := .norm) (σ := (kn (argS 0 ([N x, N y, N z].map .one)) [])) (cs := [True, True, True, True, True, True, True, z = (0 : Nat), True, True, True, True, True, True, True, True, True, z = (0 : Nat), True, True, True, True, True, True, True, True, True, True, True, True, True, True, True]) (o' := .ret) (rs := Try.f25.results.toList) (v := (.one (B true))) (H := ([] : List (Nat × Bk))) (by kernel_rfl) (.inr rfl) (by ((simp only [conj, and_true, true_and, and_self, cmp_lt0, cmp_le0, cmp_ge0, cmp_gt0, reduceCtorEq, not_false_eq_true]) <;> first | omega | (simp_all; done) | (simp_all; omega))) fun _ _ => rfl
    · skip
      have h7 : TOP ≤ up (x * y) z := (Classical.em (x * y % z = 0)).elim (fun hr => by rw [h4 h.1 hr]; omega) (fun hr => by rw [h5 h.1 hr]; omega)
      exact goes_ret (ctx_ok tF_ok 100) mixed rfl (orc := way [(17, 1), (24, 1)]) (stops := []) (f := 3000) (k := [.code (bodyOf Try.f25)]) (o := .norm) (σ := (kn (argS 0 ([N x, N y, N z].map .one)) [])) (cs := [True, True, True, True, True, True, True, (0 : Nat) < z ∧ TOP ≤ x * y / z, True, True, True, True, True, True, True, True, True, (0 : Nat) < z ∧ TOP ≤ up (x * y) z, True, True, True, True, True, True, True, True, True, True, True, True, True, True, True]) (o' := .ret) (rs := Try.f25.results.toList) (v := (.one (B true))) (H := ([] : List (Nat × Bk))) (by kernel_rfl) (.inr rfl) (by ((simp only [conj, and_true, true_and, and_self, cmp_lt0, cmp_le0, cmp_ge0, cmp_gt0, reduceCtorEq, not_false_eq_true]) <;> first | omega | (simp_all; done) | (simp_all; omega))) fun _ _ => rfl
    · skip
      have h7 := h4 h.1 h.2.2.2
      exact goes_ret (ctx_ok tF_ok 100) mixed rfl (orc := way [(44, 1)]) (stops := []) (f := 3000) (k := [.code (bodyOf Try.f25)]) (o := .norm) (σ := (kn (argS 0 ([N x, N y, N z].map .one)) [])) (cs := [True, True, True, True, True, True, True, (0 : Nat) < z ∧ x * y / z < TOP, True, True, True, True, True, True, True, True, True, (0 : Nat) < z ∧ up (x * y) z < TOP, True, True, True, True, True, True, True, True, True, True, True, True, x * y / z * z ≤ x * y, True, True, (0 : Int) ≤ (1 : Int) ∧ (1 : Int) < (18446744073709551616 : Int), TOP ≤ x * y / z + 1, True, True, True, True, True, True, True, True, True, True, True, True, True, True, True, True, True, True, True, True, True, True, x * y ≤ up (x * y) z * z, True, True, True, True, up (x * y) z = x * y / z, True, True, True, True, True, True, True, True, True, True, True, True, True, True, True]) (o' := .ret) (rs := Try.f25.results.toList) (v := (.one (B true))) (H := ([] : List (Nat × Bk))) (by kernel_rfl) (.inr rfl) (by ((simp only [conj, and_true, true_and, and_self, cmp_lt0, cmp_le0, cmp_ge0, cmp_gt0, reduceCtorEq, not_false_eq_true]) <;> first | omega | (simp_all; done) | (simp_all; omega))) fun _ _ => rfl
    · skip
      have h7 := h5 h.1 h.2.2.2
      exact goes_ret (ctx_ok tF_ok 100) mixed rfl (orc := way [(24, 1), (44, 1), (71, 1)]) (stops := []) (f := 3000) (k := [.code (bodyOf Try.f25)]) (o := .norm) (σ := (kn (argS 0 ([N x, N y, N z].map .one)) [])) (cs := [True, True, True, True, True, True, True, (0 : Nat) < z ∧ x * y / z < TOP, True, True, True, True, True, True, True, True, True, (0 : Nat) < z ∧ TOP ≤ up (x * y) z, True, True, True, True, True, True, True, True, True, True, True, True, x * y / z * z ≤ x * y, True, True, (0 : Int) ≤ (1 : Int) ∧ (1 : Int) < (18446744073709551616 : Int), TOP ≤ x * y / z + 1, True, True, True, True, True, True, True, True, True, True, True, True, True, True, True, True, True, True, True, True, True, True, True, True, True, True, True, True, True, True, x * y / z * z < x * y, True, True, True]) (o' := .ret) (rs := Try.f25.results.toList) (v := (.one (B true))) (H := ([] : List (Nat × Bk))) (by kernel_rfl) (.inr rfl) (by ((simp only [conj, and_true, true_and, and_self, cmp_lt0, cmp_le0, cmp_ge0, cmp_gt0, reduceCtorEq, not_false_eq_true]) <;> first | omega | (simp_all; done) | (simp_all; omega))) fun _ _ => rfl
    · skip
      have h7 := h4 h.1 h.2.2
      exact goes_ret (ctx_ok tF_ok 100) mixed rfl (orc := way [(53, 1)]) (stops := []) (f := 3000) (k := [.code (bodyOf Try.f25)]) (o := .norm) (σ := (kn (argS 0 ([N x, N y, N z].map .one)) [])) (cs := [True, True, True, True, True, True, True, (0 : Nat) < z ∧ x * y / z < TOP, True, True, True, True, True, True, True, True, True, (0 : Nat) < z ∧ up (x * y) z < TOP, True, True, True, True, True, True, True, True, True, True, True, True, x * y / z * z ≤ x * y, True, True, (0 : Int) ≤ (1 : Int) ∧ (1 : Int) < (18446744073709551616 : Int), x * y / z + 1 < TOP, True, True, True, True, True, True, True, True, True, True, True, True, x * y < (x * y / z + 1) * z, True, True, True, True, True, True, True, True, True, x * y ≤ up (x * y) z * z, True, True, True, True, up (x * y) z = x * y / z, True, True, True, True, True, True, True, True, True, True, True, True, True, True, True]) (o' := .ret) (rs := Try.f25.results.toList) (v := (.one (B true))) (H := ([] : List (Nat × Bk))) (by kernel_rfl) (.inr rfl) (by ((simp only [conj, and_true, true_and, and_self, cmp_lt0, cmp_le0, cmp_ge0, cmp_gt0, reduceCtorEq, not_false_eq_true]) <;> first | omega | (simp_all; done) | (simp_all; omega))) fun _ _ => rfl
    · skip
      have h7 := h5 h.1 h.2.2
      exact goes_ret (ctx_ok tF_ok 100) mixed rfl (orc := way [(53, 1), (85, 1), (95, 1)]) (stops := []) (f := 3000) (k := [.code (bodyOf Try.f25)]) (o := .norm) (σ := (kn (argS 0 ([N x, N y, N z].map .one)) [])) (cs := [True, True, True, True, True, True, True, (0 : Nat) < z ∧ x * y / z < TOP, True, True, True, True, True, True, True, True, True, (0 : Nat) < z ∧ up (x * y) z < TOP, True, True, True, True, True, True, True, True, True, True, True, True, x * y / z * z ≤ x * y, True, True, (0 : Int) ≤ (1 : Int) ∧ (1 : Int) < (18446744073709551616 : Int), x * y / z + 1 < TOP, True, True, True, True, True, True, True, True, True, True, True, True, x * y < (x * y / z + 1) * z, True, True, True, True, True, True, True, True, True, x * y ≤ up (x * y) z * z, True, True, True, True, ¬up (x * y) z = x * y / z, True, True, True, up (x * y) z = x * y / z + 1, True, True, True, True, True, x * y / z * z < x * y, True, True, True, True, True]) (o' := .ret) (rs := Try.f25.results.toList) (v := (.one (B true))) (H := ([] : List (Nat × Bk))) (by kernel_rfl) (.inr rfl) (by ((simp only [conj, and_true, true_and, and_self, cmp_lt0, cmp_le0, cmp_ge0, cmp_gt0, reduceCtorEq, not_false_eq_true]) <;> first | omega | (simp_all; done) | (simp_all; omega))) fun _ _ => rfl

end M
end Go.Proofs.Ytmjdmhelmgcanaa

/- The law NumOrders, as a call. -/
namespace Go.Proofs.Ytmjdmhelmgcanaa
namespace M
open Go.RowKit
set_option linter.unusedSimpArgs false


theorem cmp_bound (x y : Nat) : -1 ≤ cmpN x y ∧ cmpN x y ≤ 1 := by unfold cmpN; (repeat' split) <;> omega
theorem cmp_neg (x y : Nat) : cmpN y x = -cmpN x y := by unfold cmpN; (repeat' split) <;> omega
theorem cmp_eq0 (x y : Nat) : cmpN x y = 0 ↔ x = y := by unfold cmpN; (repeat' split) <;> constructor <;> intro _ <;> omega

theorem num_orders_owes {a b c : Nat} (ha : a < TOP) (hb : b < TOP) (hc : c < TOP) :
    Owes 22 [N a, N b, N c] [(True, .one (B true))] := by
  have ht := top_eq
  have hb1 := cmp_bound a b
  intro p0 hp0 hc
  simp only [List.mem_cons, List.not_mem_nil, or_false] at hp0
  subst hp0
  · have hc' : True := hc
    have hpl : (.one (B true) : Sv).all Av.plain := by ((first | refine tupP ?_ | refine oneP ?_) <;> first | (first | exact E_plain _ | exact B_plain _ | exact lit_plain _ _ | exact int_plain _ _ | exact N_plain (by omega) | exact N_plain2 (by omega) (by omega) | assumption) | ((repeat' (first | exact argsP_nil | refine argsP_cons ?_ ?_)) <;> (first | exact E_plain _ | exact B_plain _ | exact lit_plain _ _ | exact int_plain _ _ | exact N_plain (by omega) | exact N_plain2 (by omega) (by omega) | assumption)))
    refine ⟨hpl, pure_calls' (ctx_ok tN_ok 51) Try.func22 (c := bodyOf Try.f22) rfl rfl (args := [N a, N b, N c]) (Nat.le_of_ble_eq_true (by kernel_rfl)) (by ((repeat' (first | exact argsP_nil | refine argsP_cons ?_ ?_)) <;> (first | exact E_plain _ | exact B_plain _ | exact lit_plain _ _ | exact int_plain _ _ | exact N_plain (by omega) | exact N_plain2 (by omega) (by omega) | assumption))) hpl (fun w0 => ?_)⟩
    have hn := cmp_neg a b
    have hs : (a = b ∧ c < b) ∨ (a = b ∧ b ≤ c) ∨ (a < b ∧ c < b) ∨ (a < b ∧ b ≤ c) ∨ b < a := by omega
    rcases hs with h | h | h | h | h
    · skip
      exact goes_ret (ctx_ok tN_ok 51) mixed rfl (orc := way [(19, 1), (26, 1), (39, 1)]) (stops := []) (f := 3000) (k := [.code (bodyOf Try.f22)]) (o := .norm) (σ := (kn (argS 0 ([N a, N b, N c].map .one)) [])) (cs := [True, True, True, True, True, True, True, True, True, True, True, True, True, True, True, True, ¬cmpN a b ≠ cmpN a b, True, True, True, True, True, (-9223372036854775808 : Int) ≤ (0 : Int) - cmpN a b ∧ (0 : Int) - cmpN a b < (9223372036854775808 : Int), ¬cmpN b a ≠ (0 : Int) - cmpN a b, True, True, True, cmpN a b = (0 : Int), True, True, a = b, True, True, True, True, True, ¬(0 : Int) < cmpN a b, True, True, (0 : Int) < cmpN b c, True, True, True, True, True, True, True, True, True]) (o' := .ret) (rs := Try.f22.results.toList) (v := (.one (B true))) (H := ([] : List (Nat × Bk))) (by kernel_rfl) (.inr rfl) (by simp only [conj, and_true, true_and, cmp_lt0, cmp_le0, cmp_ge0, cmp_gt0, cmp_eq0, hn, ne_eq, not_true_eq_false, not_false_eq_true] <;> omega) fun _ _ => rfl
    · skip
      exact goes_ret (ctx_ok tN_ok 51) mixed rfl (orc := way [(19, 1), (26, 1), (39, 1), (42, 1)]) (stops := []) (f := 3000) (k := [.code (bodyOf Try.f22)]) (o := .norm) (σ := (kn (argS 0 ([N a, N b, N c].map .one)) [])) (cs := [True, True, True, True, True, True, True, True, True, True, True, True, True, True, True, True, ¬cmpN a b ≠ cmpN a b, True, True, True, True, True, (-9223372036854775808 : Int) ≤ (0 : Int) - cmpN a b ∧ (0 : Int) - cmpN a b < (9223372036854775808 : Int), ¬cmpN b a ≠ (0 : Int) - cmpN a b, True, True, True, cmpN a b = (0 : Int), True, True, a = b, True, True, True, True, True, ¬(0 : Int) < cmpN a b, True, True, ¬(0 : Int) < cmpN b c, True, True, True, True, True, cmpN a c ≤ (0 : Int), True, True, True]) (o' := .ret) (rs := Try.f22.results.toList) (v := (.one (B true))) (H := ([] : List (Nat × Bk))) (by kernel_rfl) (.inr rfl) (by simp only [conj, and_true, true_and, cmp_lt0, cmp_le0, cmp_ge0, cmp_gt0, cmp_eq0, hn, ne_eq, not_true_eq_false, not_false_eq_true] <;> omega) fun _ _ => rfl
    · skip
      exact goes_ret (ctx_ok tN_ok 51) mixed rfl (orc := way [(19, 1), (26, 1), (30, 1), (33, 1), (39, 1)]) (stops := []) (f := 3000) (k := [.code (bodyOf Try.f22)]) (o := .norm) (σ := (kn (argS 0 ([N a, N b, N c].map .one)) [])) (cs := [True, True, True, True, True, True, True, True, True, True, True, True, True, True, True, True, ¬cmpN a b ≠ cmpN a b, True, True, True, True, True, (-9223372036854775808 : Int) ≤ (0 : Int) - cmpN a b ∧ (0 : Int) - cmpN a b < (9223372036854775808 : Int), ¬cmpN b a ≠ (0 : Int) - cmpN a b, True, True, True, ¬cmpN a b = (0 : Int), True, True, ¬a = b, True, True, True, True, True, ¬(0 : Int) < cmpN a b, True, True, (0 : Int) < cmpN b c, True, True, True, True, True, True, True, True, True]) (o' := .ret) (rs := Try.f22.results.toList) (v := (.one (B true))) (H := ([] : List (Nat × Bk))) (by kernel_rfl) (.inr rfl) (by simp only [conj, and_true, true_and, cmp_lt0, cmp_le0, cmp_ge0, cmp_gt0, cmp_eq0, hn, ne_eq, not_true_eq_false, not_false_eq_true] <;> omega) fun _ _ => rfl
    · skip
      exact goes_ret (ctx_ok tN_ok 51) mixed rfl (orc := way [(19, 1), (26, 1), (30, 1), (33, 1), (39, 1), (42, 1)]) (stops := []) (f := 3000) (k := [.code (bodyOf Try.f22)]) (o := .norm) (σ := (kn (argS 0 ([N a, N b, N c].map .one)) [])) (cs := [True, True, True, True, True, True, True, True, True, True, True, True, True, True, True, True, ¬cmpN a b ≠ cmpN a b, True, True, True, True, True, (-9223372036854775808 : Int) ≤ (0 : Int) - cmpN a b ∧ (0 : Int) - cmpN a b < (9223372036854775808 : Int), ¬cmpN b a ≠ (0 : Int) - cmpN a b, True, True, True, ¬cmpN a b = (0 : Int), True, True, ¬a = b, True, True, True, True, True, ¬(0 : Int) < cmpN a b, True, True, ¬(0 : Int) < cmpN b c, True, True, True, True, True, cmpN a c ≤ (0 : Int), True, True, True]) (o' := .ret) (rs := Try.f22.results.toList) (v := (.one (B true))) (H := ([] : List (Nat × Bk))) (by kernel_rfl) (.inr rfl) (by simp only [conj, and_true, true_and, cmp_lt0, cmp_le0, cmp_ge0, cmp_gt0, cmp_eq0, hn, ne_eq, not_true_eq_false, not_false_eq_true] <;> omega) fun _ _ => rfl
    · skip
      exact goes_ret (ctx_ok tN_ok 51) mixed rfl (orc := way [(19, 1), (26, 1), (30, 1), (33, 1)]) (stops := []) (f := 3000) (k := [.code (bodyOf Try.f22)]) (o := .norm) (σ := (kn (argS 0 ([N a, N b, N c].map .one)) [])) (cs := [True, True, True, True, True, True, True, True, True, True, True, True, True, True, True, True, ¬cmpN a b ≠ cmpN a b, True, True, True, True, True, (-9223372036854775808 : Int) ≤ (0 : Int) - cmpN a b ∧ (0 : Int) - cmpN a b < (9223372036854775808 : Int), ¬cmpN b a ≠ (0 : Int) - cmpN a b, True, True, True, ¬cmpN a b = (0 : Int), True, True, ¬a = b, True, True, True, True, True, (0 : Int) < cmpN a b, True, True, True, True, True, True, True, True, True, True, True, True]) (o' := .ret) (rs := Try.f22.results.toList) (v := (.one (B true))) (H := ([] : List (Nat × Bk))) (by kernel_rfl) (.inr rfl) (by simp only [conj, and_true, true_and, cmp_lt0, cmp_le0, cmp_ge0, cmp_gt0, cmp_eq0, hn, ne_eq, not_true_eq_false, not_false_eq_true] <;> omega) fun _ _ => rfl

end M
end Go.Proofs.Ytmjdmhelmgcanaa
