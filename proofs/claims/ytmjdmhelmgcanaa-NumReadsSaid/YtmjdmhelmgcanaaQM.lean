/- Joined out of smaller texts: RByt, Rd, RdE, Bin, MIn, RdI, RdJ, RdK, RdL, RdM. -/
import Derived.Test.YtmjdmhelmgcanaaQK
import Derived.Test.YtmjdmhelmgcanaaQG
import Derived.RangeFuncNested
import Derived.Test.YtmjdmhelmgcanaaQB
import Derived.OpenShut
/- r01.Bytes. -/
namespace Go.Proofs.Ytmjdmhelmgcanaa
namespace M
open Go.RowKit
set_option linter.unusedSimpArgs false

def rtS (i : Int) (v : Av) : List (Nat × Sv) := [(3, .one [.sl 8 1 0 16]), (4, .one [v]), (5, .one [.int .i64 i])]
def rtH (x : Nat) : List (Nat × Bk) := [(8, .row true 26 1 16 (rowN (dg x)))]
def rtH2 (x n : Nat) (F : Nat → Nat) : List (Nat × Bk) := [(8, .row true 26 1 16 (rowN (dg x))), (500, .row true 5 1 n (row8 F))]
def rtW (x m : Nat) : Nat := dg x (m / 2) / 2 ^ (8 * (m % 2)) % 256

theorem rt_A {w0 : Base} {x m : Nat} (hm : m < 32) (hz : rtW x m = 0) :
    Goes Try.prog Try.f84.ntmps w0 [.code (roundOf 0 (bodyOf Try.f84))] .norm (kn (rtS (m : Int) .nil) (rtH x)) fun k o σ => k = [] ∧ o = .norm ∧ σ = kn (rtS ((m : Int) - 1) .nil) (rtH x) := by
  have hz' : dg x (m / 2) / 2 ^ (8 * (m % 2)) % 256 = 0 := hz
  exact goes (ctx_ok tabU_ok 35) mixed rfl (gs := []) (gh := []) (orc := way [(22, 1), (24, 1), (28, 1)]) (stops := []) (f := 3000) (k := [.code (roundOf 0 (bodyOf Try.f84))]) (o := .norm) (σ := (kn (rtS (m : Int) .nil) (rtH x))) (cs := [True, (0 : Int) ≤ (↑m : Int), True, True, (0 : Int) ≤ (↑m : Int) ∧ (-9223372036854775808 : Int) ≤ (↑m : Int) / (2 : Int) ∧ (↑m : Int) / (2 : Int) < (9223372036854775808 : Int), (0 : Int) ≤ (↑m : Int) / (2 : Int) ∧ (↑m : Int) / (2 : Int) < (↑(16 : Nat) : Int), addO (0 : Nat) (m / 2) < (16 : Nat), True, (0 : Int) ≤ (↑m : Int), (-9223372036854775808 : Int) ≤ (8 : Int) * ((↑m : Int) % (2 : Int)) ∧ (8 : Int) * ((↑m : Int) % (2 : Int)) < (9223372036854775808 : Int), (0 : Int) ≤ (↑(dg x (addO (0 : Nat) (m / 2))) : Int) ∧ (0 : Int) ≤ (8 : Int) * ((↑m : Int) % (2 : Int)) ∧ (8 : Int) * ((↑m : Int) % (2 : Int)) < (64 : Int), True, True, True, ¬(0 : Int) < IntKind.wrap IntKind.u8 (↑(dg x (addO (0 : Nat) (m / 2)) / (2 : Nat) ^ (8 * (m % 2))) : Int), True, True, True, True, True, True, (-9223372036854775808 : Int) ≤ (↑m : Int) - (1 : Int) ∧ (↑m : Int) - (1 : Int) < (9223372036854775808 : Int), True]) (k' := []) (o' := .norm) (S := (rtS ((m : Int) - 1) .nil)) (H := (rtH x)) (by kernel_rfl) (by kernel_rfl) (by simp only [conj, and_true, true_and, addO_eq, Nat.zero_add, Int.toNat_natCast, wrap8, hz']; omega)
theorem rt_B {w0 : Base} {x m : Nat} (hm : m < 32) (hz : rtW x m ≠ 0) :
    Goes Try.prog Try.f84.ntmps w0 [.code (roundOf 0 (bodyOf Try.f84))] .norm (kn (rtS (m : Int) .nil) (rtH x)) fun k o σ => k = [] ∧ o = .norm ∧ σ = kn (rtS ((m : Int) - 1) (.sl 33 1 0 1)) [(8, .row true 26 1 16 (rowN (dg x))), (33, .row true 5 1 1 (btG0 (rtW x m)))] := by
  have hz' : dg x (m / 2) / 2 ^ (8 * (m % 2)) % 256 ≠ 0 := hz
  exact goes (ctx_ok tabU_ok 35) mixed rfl (gs := []) (gh := []) (orc := way [(22, 1)]) (stops := []) (f := 3000) (k := [.code (roundOf 0 (bodyOf Try.f84))]) (o := .norm) (σ := (kn (rtS (m : Int) .nil) (rtH x))) (cs := [True, (0 : Int) ≤ (↑m : Int), True, True, (0 : Int) ≤ (↑m : Int) ∧ (-9223372036854775808 : Int) ≤ (↑m : Int) / (2 : Int) ∧ (↑m : Int) / (2 : Int) < (9223372036854775808 : Int), (0 : Int) ≤ (↑m : Int) / (2 : Int) ∧ (↑m : Int) / (2 : Int) < (↑(16 : Nat) : Int), addO (0 : Nat) (m / 2) < (16 : Nat), True, (0 : Int) ≤ (↑m : Int), (-9223372036854775808 : Int) ≤ (8 : Int) * ((↑m : Int) % (2 : Int)) ∧ (8 : Int) * ((↑m : Int) % (2 : Int)) < (9223372036854775808 : Int), (0 : Int) ≤ (↑(dg x (addO (0 : Nat) (m / 2))) : Int) ∧ (0 : Int) ≤ (8 : Int) * ((↑m : Int) % (2 : Int)) ∧ (8 : Int) * ((↑m : Int) % (2 : Int)) < (64 : Int), True, True, True, (0 : Int) < IntKind.wrap IntKind.u8 (↑(dg x (addO (0 : Nat) (m / 2)) / (2 : Nat) ^ (8 * (m % 2))) : Int), True, True, True, True, True, True, True, True, (0 : Nat) < (1 : Nat) ∧ (0 : Nat) + (1 : Nat) ≤ (1 : Nat) ∧ (1 : Nat) * (1 : Nat) ≤ (140737488355328 : Nat), True, True, (-9223372036854775808 : Int) ≤ (↑m : Int) - (1 : Int) ∧ (↑m : Int) - (1 : Int) < (9223372036854775808 : Int), True]) (k' := []) (o' := .norm) (S := (rtS ((m : Int) - 1) (.sl 33 1 0 1))) (H := [(8, .row true 26 1 16 (rowN (dg x))), (33, .row true 5 1 1 (btG0 (rtW x m)))]) (by kernel_rfl) (by kernel_rfl) (by simp only [conj, and_true, true_and, addO_eq, Nat.zero_add, Int.toNat_natCast, wrap8]; omega)
theorem rt_C {w0 : Base} {x m n : Nat} {F : Nat → Nat} (hm : m < 32) (hn : n < 40) (hn0 : 0 < n) :
    Goes Try.prog Try.f84.ntmps w0 [.code (roundOf 0 (bodyOf Try.f84))] .norm (kn (rtS (m : Int) (.sl 500 1 0 n)) (rtH2 x n F)) fun k o σ => k = [] ∧ o = .norm ∧ σ = kn (rtS ((m : Int) - 1) (.sl 33 1 0 (n + 1))) [(8, .row true 26 1 16 (rowN (dg x))), (33, .row true 5 1 (n + 1) (btG F n (rtW x m)))] := by
  by_cases hz : rtW x m = 0
  · have hz' : dg x (m / 2) / 2 ^ (8 * (m % 2)) % 256 = 0 := hz
    exact goes (ctx_ok tabU_ok 35) mixed rfl (gs := []) (gh := []) (orc := way [(22, 1), (24, 1)]) (stops := []) (f := 3000) (k := [.code (roundOf 0 (bodyOf Try.f84))]) (o := .norm) (σ := (kn (rtS (m : Int) (.sl 500 1 0 n)) (rtH2 x n F))) (cs := [True, (0 : Int) ≤ (↑m : Int), True, True, (0 : Int) ≤ (↑m : Int) ∧ (-9223372036854775808 : Int) ≤ (↑m : Int) / (2 : Int) ∧ (↑m : Int) / (2 : Int) < (9223372036854775808 : Int), (0 : Int) ≤ (↑m : Int) / (2 : Int) ∧ (↑m : Int) / (2 : Int) < (↑(16 : Nat) : Int), addO (0 : Nat) (m / 2) < (16 : Nat), True, (0 : Int) ≤ (↑m : Int), (-9223372036854775808 : Int) ≤ (8 : Int) * ((↑m : Int) % (2 : Int)) ∧ (8 : Int) * ((↑m : Int) % (2 : Int)) < (9223372036854775808 : Int), (0 : Int) ≤ (↑(dg x (addO (0 : Nat) (m / 2))) : Int) ∧ (0 : Int) ≤ (8 : Int) * ((↑m : Int) % (2 : Int)) ∧ (8 : Int) * ((↑m : Int) % (2 : Int)) < (64 : Int), True, True, True, ¬(0 : Int) < IntKind.wrap IntKind.u8 (↑(dg x (addO (0 : Nat) (m / 2)) / (2 : Nat) ^ (8 * (m % 2))) : Int), True, True, True, (0 : Int) < (↑n : Int), True, True, True, True, n = n ∧ (0 : Nat) < (1 : Nat) ∧ (0 : Nat) + (1 : Nat) ≤ (1 : Nat) ∧ (n + (1 : Nat)) * (1 : Nat) ≤ (140737488355328 : Nat), True, True, (-9223372036854775808 : Int) ≤ (↑m : Int) - (1 : Int) ∧ (↑m : Int) - (1 : Int) < (9223372036854775808 : Int), True]) (k' := []) (o' := .norm) (S := (rtS ((m : Int) - 1) (.sl 33 1 0 (n + 1)))) (H := [(8, .row true 26 1 16 (rowN (dg x))), (33, .row true 5 1 (n + 1) (btG F n (rtW x m)))]) (by kernel_rfl) (by kernel_rfl) (by simp only [conj, and_true, true_and, addO_eq, Nat.zero_add, Int.toNat_natCast, wrap8, hz']; omega)
  · have hz' : dg x (m / 2) / 2 ^ (8 * (m % 2)) % 256 ≠ 0 := hz
    exact goes (ctx_ok tabU_ok 35) mixed rfl (gs := []) (gh := []) (orc := way [(22, 1)]) (stops := []) (f := 3000) (k := [.code (roundOf 0 (bodyOf Try.f84))]) (o := .norm) (σ := (kn (rtS (m : Int) (.sl 500 1 0 n)) (rtH2 x n F))) (cs := [True, (0 : Int) ≤ (↑m : Int), True, True, (0 : Int) ≤ (↑m : Int) ∧ (-9223372036854775808 : Int) ≤ (↑m : Int) / (2 : Int) ∧ (↑m : Int) / (2 : Int) < (9223372036854775808 : Int), (0 : Int) ≤ (↑m : Int) / (2 : Int) ∧ (↑m : Int) / (2 : Int) < (↑(16 : Nat) : Int), addO (0 : Nat) (m / 2) < (16 : Nat), True, (0 : Int) ≤ (↑m : Int), (-9223372036854775808 : Int) ≤ (8 : Int) * ((↑m : Int) % (2 : Int)) ∧ (8 : Int) * ((↑m : Int) % (2 : Int)) < (9223372036854775808 : Int), (0 : Int) ≤ (↑(dg x (addO (0 : Nat) (m / 2))) : Int) ∧ (0 : Int) ≤ (8 : Int) * ((↑m : Int) % (2 : Int)) ∧ (8 : Int) * ((↑m : Int) % (2 : Int)) < (64 : Int), True, True, True, (0 : Int) < IntKind.wrap IntKind.u8 (↑(dg x (addO (0 : Nat) (m / 2)) / (2 : Nat) ^ (8 * (m % 2))) : Int), True, True, True, True, True, True, True, True, n = n ∧ (0 : Nat) < (1 : Nat) ∧ (0 : Nat) + (1 : Nat) ≤ (1 : Nat) ∧ (n + (1 : Nat)) * (1 : Nat) ≤ (140737488355328 : Nat), True, True, (-9223372036854775808 : Int) ≤ (↑m : Int) - (1 : Int) ∧ (↑m : Int) - (1 : Int) < (9223372036854775808 : Int), True]) (k' := []) (o' := .norm) (S := (rtS ((m : Int) - 1) (.sl 33 1 0 (n + 1)))) (H := [(8, .row true 26 1 16 (rowN (dg x))), (33, .row true 5 1 (n + 1) (btG F n (rtW x m)))]) (by kernel_rfl) (by kernel_rfl) (by simp only [conj, and_true, true_and, addO_eq, Nat.zero_add, Int.toNat_natCast, wrap8]; omega)

theorem rtW_eq {x m : Nat} (_ : m < 32) : rtW x m = x / 256 ^ m % 256 := by
  have e3 : (256 : Nat) ^ m = 65536 ^ (m / 2) * 2 ^ (8 * (m % 2)) := by
    rw [show (65536 : Nat) = 2 ^ 16 from rfl, show (256 : Nat) = 2 ^ 8 from rfl, ← Nat.pow_mul, ← Nat.pow_mul, ← Nat.pow_add]
    congr 1; omega
  have e2 : ∀ y k, k ≤ 8 → y % 65536 / 2 ^ k % 256 = y / 2 ^ k % 256 := by
    intro y k hk
    have e : 65536 = 2 ^ k * (256 * 2 ^ (8 - k)) := by
      rw [show (256 : Nat) = 2 ^ 8 from rfl, ← Nat.pow_add, ← Nat.pow_add, show k + (8 + (8 - k)) = 16 by omega]
    rw [e, Nat.mod_mul_right_div_self, Nat.mod_mul_right_mod]
  unfold rtW dg
  rw [e2 _ _ (by omega), e3, ← Nat.div_div_eq_div_mul]

/-- the bytes that are written already -/
def rtSt (x : Nat) (p : Int × Nat) : Ms := if p.2 = 0 then kn (rtS p.1 .nil) (rtH x) else kn (rtS p.1 (.sl 500 1 0 (nb p.2))) (rtH2 x (nb p.2) (bys p.2))

theorem rt_round {w0 : Base} {x m y : Nat} (hx : x < TOP) (hm : m < 32) (hy : y = x / 256 ^ (m + 1)) :
    Goes Try.prog Try.f84.ntmps w0 [.code (roundOf 0 (bodyOf Try.f84))] .norm (rtSt x ((m : Int), y)) fun k o σ => k = [] ∧ o = .norm ∧ ∃ σ0, σ = σ0 ∧ ∀ {nt : Nat} {kk : List Fr} {Z : List Fr → Out → Ms → Prop}, Goes Try.prog nt w0 kk .norm (rtSt x ((m : Int) - 1, x / 256 ^ m)) Z → Goes Try.prog nt w0 kk .norm σ0 Z := by
  have hb : rtW x m < 256 := Nat.mod_lt _ (by omega)
  have hstep : x / 256 ^ m = 256 * y + rtW x m := by
    rw [rtW_eq hm, hy, Nat.pow_succ, ← Nat.div_div_eq_div_mul]
    omega
  have hle : y ≤ x := by rw [hy]; exact Nat.div_le_self _ _
  have hnb : nb y ≤ 32 := nb_le (Nat.lt_of_le_of_lt hle hx)
  rw [hstep]
  rcases Nat.eq_zero_or_pos y with e | e
  · have e1 : rtSt x ((m : Int), y) = kn (rtS (m : Int) .nil) (rtH x) := by unfold rtSt; rw [if_pos e]
    rw [e1]
    by_cases hz : rtW x m = 0
    · refine (rt_A hm hz).mono ?_
      rintro k o σ ⟨rfl, rfl, rfl⟩
      refine ⟨rfl, rfl, _, rfl, fun g => ?_⟩
      have e2 : rtSt x ((m : Int) - 1, 256 * y + rtW x m) = kn (rtS ((m : Int) - 1) .nil) (rtH x) := by unfold rtSt; rw [if_pos (by show 256 * y + rtW x m = 0; omega)]
      rw [e2] at g
      exact g
    · refine (rt_B hm hz).mono ?_
      rintro k o σ ⟨rfl, rfl, rfl⟩
      refine ⟨rfl, rfl, _, rfl, fun g => ?_⟩
      have hp : 0 < 256 * y + rtW x m := by omega
      have hn : nb (256 * y + rtW x m) = 1 := by rw [nb_step hb hp, e, nb_zero]
      have e2 : rtSt x ((m : Int) - 1, 256 * y + rtW x m) = kn (rtS ((m : Int) - 1) (.sl 500 1 0 1)) (rtH2 x 1 (bys (256 * y + rtW x m))) := by
        unfold rtSt; rw [if_neg (by show ¬ 256 * y + rtW x m = 0; omega)]
        simp only [hn]
      rw [e2] at g
      refine goes_name (a := 33) (b := 500) (by omega) (by omega) (by simp) ?_
      refine goes_sim (.same _ (.row (row8_OK (bys (256 * y + rtW x m)) 1) ?_ .nil)) g
      refine rowC_congr fun i hi => ?_
      obtain rfl : i = 0 := by omega
      have := bys_last hb hp
      rw [e, nb_zero] at this
      simp only [row8, e]
      rw [this]; rfl
  · have e1 : rtSt x ((m : Int), y) = kn (rtS (m : Int) (.sl 500 1 0 (nb y))) (rtH2 x (nb y) (bys y)) := by unfold rtSt; rw [if_neg (by show ¬ y = 0; omega)]
    have hn0 : 0 < nb y := by rw [nb_pos e]; omega
    rw [e1]
    refine (rt_C hm (by omega) hn0).mono ?_
    rintro k o σ ⟨rfl, rfl, rfl⟩
    refine ⟨rfl, rfl, _, rfl, fun g => ?_⟩
    have hp : 0 < 256 * y + rtW x m := by omega
    have e2 : rtSt x ((m : Int) - 1, 256 * y + rtW x m) = kn (rtS ((m : Int) - 1) (.sl 500 1 0 (nb y + 1))) (rtH2 x (nb y + 1) (bys (256 * y + rtW x m))) := by
      unfold rtSt; rw [if_neg (by show ¬ 256 * y + rtW x m = 0; omega)]
      simp only [nb_step hb hp]
    rw [e2] at g
    refine goes_name (a := 33) (b := 500) (by omega) (by omega) (by simp) ?_
    refine goes_sim (.same _ (.row (row8_OK (bys (256 * y + rtW x m)) (nb y + 1)) ?_ .nil)) g
    refine rowC_congr fun i hi => ?_
    unfold btG
    by_cases hi2 : i < nb y
    · have : Nat.blt i (nb y) = true := Nat.ble_eq_true_of_le hi2
      rw [this]
      simp only [row8, cond_true, bys_step hb hp hi2]
    · obtain rfl : i = nb y := by omega
      have : Nat.blt (nb y) (nb y) = false := by
        cases h : Nat.blt (nb y) (nb y) with
        | false => rfl
        | true => exact absurd (Nat.le_of_ble_eq_true h) (Nat.lt_irrefl _)
      rw [this]
      simp only [row8, cond_false, Nat.sub_self, bys_last hb hp]
      rfl

theorem rbytes_goes {w0 : Base} {x : Nat} (hx : x < TOP) : Goes Try.prog Try.f84.ntmps w0 [.code (bodyOf Try.f84)] .norm (kn (argS 0 [.one (N x)]) [])
    (Fin (ctx tabU 35) Try.f84.results.toList fun v σ => (x = 0 ∧ v = .one [.nil]) ∨ (0 < x ∧ v = .one [.sl 500 1 0 (nb x)] ∧ σ.heap 500 = some (.row true 5 1 (nb x) (row8 (bys x))))) := by
  refine (goes (ctx_ok tabU_ok 35) mixed rfl (gs := [5]) (gh := []) (orc := way []) (stops := [0]) (f := 3000) (k := [.code (bodyOf Try.f84)]) (o := .norm) (σ := (kn (argS 0 [.one (N x)]) [])) (cs := [True, True, True, True, True, True, True]) (k' := (kOf 0 (bodyOf Try.f84))) (o' := .norm) (S := (rtS 31 .nil)) (H := (rtH x)) (by kernel_rfl) (by kernel_rfl) (by simp [conj])).bind ?_
  rintro k o σ ⟨rfl, rfl, rfl⟩
  have hk : kOf 0 (bodyOf Try.f84) = .code (.block 0 (.loop (roundOf 0 (bodyOf Try.f84)))) :: restOf 0 (bodyOf Try.f84) := by kernel_rfl
  rw [hk]
  have hx0 : x / 256 ^ 32 = 0 := Nat.div_eq_of_lt hx
  refine (goes_loop (rtSt x) (fun p => -1 ≤ p.1 ∧ p.1 ≤ 31 ∧ p.2 = x / 256 ^ (p.1 + 1).toNat) (fun p => (p.1 + 1).toNat) (fun o σ => o = .norm ∧ σ = rtSt x (-1, x)) ?_ (p := (31, 0))
    ⟨by show -1 ≤ (31 : Int); omega, by show (31 : Int) ≤ 31; omega, hx0.symm⟩).bind ?_
  · rintro ⟨i, y⟩ ⟨h1, h2, h3⟩
    simp only at h1 h2 h3
    by_cases hi : i < 0
    · obtain rfl : i = -1 := by omega
      have e0 : ((-1 : Int) + 1).toNat = 0 := rfl
      rw [e0, Nat.pow_zero, Nat.div_one] at h3
      subst h3
      unfold rtSt
      by_cases hz : y = 0
      · simp only [if_pos hz]
        refine (goes (ctx_ok tabU_ok 35) mixed rfl (gs := []) (gh := []) (orc := way [(10, 1)]) (stops := []) (f := 3000) (k := [.code (roundOf 0 (bodyOf Try.f84))]) (o := .norm) (σ := (kn (rtS (-1) .nil) (rtH y))) (cs := [True, ¬(0 : Int) ≤ (-1 : Int)]) (k' := []) (o' := (.exit 0)) (S := (rtS (-1) .nil)) (H := (rtH y)) (by kernel_rfl) (by kernel_rfl) (by simp [conj])).mono ?_
        rintro k o σ ⟨rfl, rfl, rfl⟩
        exact ⟨rfl, .inr ⟨by simp, rfl, rfl⟩⟩
      · simp only [if_neg hz]
        refine (goes (ctx_ok tabU_ok 35) mixed rfl (gs := []) (gh := []) (orc := way [(10, 1)]) (stops := []) (f := 3000) (k := [.code (roundOf 0 (bodyOf Try.f84))]) (o := .norm) (σ := (kn (rtS (-1) (.sl 500 1 0 (nb y))) (rtH2 y (nb y) (bys y)))) (cs := [True, ¬(0 : Int) ≤ (-1 : Int)]) (k' := []) (o' := (.exit 0)) (S := (rtS (-1) (.sl 500 1 0 (nb y)))) (H := (rtH2 y (nb y) (bys y))) (by kernel_rfl) (by kernel_rfl) (by simp [conj])).mono ?_
        rintro k o σ ⟨rfl, rfl, rfl⟩
        exact ⟨rfl, .inr ⟨by simp, rfl, rfl⟩⟩
    · obtain ⟨m, rfl⟩ := Int.eq_ofNat_of_zero_le (Int.not_lt.1 hi)
      have e1 : ((m : Int) + 1).toNat = m + 1 := by omega
      have e2 : ((m : Int) - 1 + 1).toNat = m := by omega
      rw [e1] at h3
      refine (rt_round hx (by omega) h3).bind ?_
      rintro k o σ ⟨rfl, rfl, σ0, rfl, g⟩
      refine g (goes_here ?_)
      exact ⟨rfl, .inl ⟨rfl, _, ⟨by show -1 ≤ (m : Int) - 1; omega, by show (m : Int) - 1 ≤ 31; omega, by show x / 256 ^ m = x / 256 ^ ((m : Int) - 1 + 1).toNat; rw [e2]⟩, by show ((m : Int) - 1 + 1).toNat < ((m : Int) + 1).toNat; omega, rfl⟩⟩
  · rintro k o σ ⟨rfl, rfl, rfl⟩
    unfold rtSt
    by_cases hz : x = 0
    · simp only [if_pos hz]
      exact goes_ret (ctx_ok tabU_ok 35) mixed rfl (orc := way []) (stops := []) (f := 3000) (k := (restOf 0 (bodyOf Try.f84))) (o := .norm) (σ := (kn (rtS (-1) .nil) (rtH x))) (cs := [True, True]) (o' := .ret) (rs := Try.f84.results.toList) (v := (.one [.nil])) (H := ([] : List (Nat × Bk))) (by kernel_rfl) (.inr rfl) (by simp [conj]) fun _ _ => .inl ⟨hz, rfl⟩
    · simp only [if_neg hz]
      exact goes_ret (ctx_ok tabU_ok 35) mixed rfl (orc := way []) (stops := []) (f := 3000) (k := (restOf 0 (bodyOf Try.f84))) (o := .norm) (σ := (kn (rtS (-1) (.sl 500 1 0 (nb x))) (rtH2 x (nb x) (bys x)))) (cs := [True, True]) (o' := .ret) (rs := Try.f84.results.toList) (v := (.one [.sl 500 1 0 (nb x)])) (H := [(500, Bk.row true 5 1 (nb x) (row8 (bys x)))]) (by kernel_rfl) (.inr rfl) (by simp [conj]) fun σ hσ => .inr ⟨by omega, rfl, hσ (500, _) List.mem_cons_self⟩

theorem rbytes_e : EOK ⟨84, 0, bytesC⟩ := bytesE (fun a w => Try.call84 a w) fun x hx ρ w => by
  refine (calls_of (w0 := base w ρ) (ctx_ok tabU_ok 35) Try.func84 (c := bodyOf Try.f84) rfl rfl (args := [.one (N x)]) (Nat.le_of_ble_eq_true (by kernel_rfl)) (plain_in (base w ρ) [N x] (by ((repeat' (first | exact argsP_nil | refine argsP_cons ?_ ?_)) <;> (first | exact E_plain _ | exact B_plain _ | exact lit_plain _ _ | exact int_plain _ _ | exact N_plain (by omega) | exact N_plain2 (by omega) (by omega) | assumption)))) (rbytes_goes hx)).mono ?_
  rintro e w' ⟨v, σ', ρ', a', ⟨h0, rfl⟩ | ⟨h0, rfl, hs⟩, rfl, hr, _⟩
  · exact .inl ⟨h0, rfl, kept_below hr.below⟩
  · exact .inr ⟨h0, 35, ρ, ρ', σ', a', 500, _, rfl, hr, hs, rfl⟩

end M
end Go.Proofs.Ytmjdmhelmgcanaa

/- r01.Read: the number of which these are the bytes. -/
namespace Go.Proofs.Ytmjdmhelmgcanaa
namespace M
open Go.RowKit
set_option linter.unusedSimpArgs false

def rdA (n : Nat) : List (Nat × Sv) := argS 0 [.one [.sl 1000 1 0 n]]
def rdS (n i : Nat) : List (Nat × Sv) := [(0, .one [.sl 1000 1 0 n]), (2, .one [.ptr 2 0]), (4, .one [.ptr 4 0]), (5, .one [.int .i64 (i : Nat)])]
def rdH (n : Nat) (F : Nat → Nat) (A : Nat) : List (Nat × Bk) := [(1000, .row false 5 1 n (row8 F)), (2, .var [.big 4 0] 28), (4, .var [.big 4 A] 28)]
def rdV (F : Nat → Nat) (n A i : Nat) : Nat := stw 4 A ((n - 1 - i) / 8) (lm A ((n - 1 - i) / 8) + F i * 2 ^ (8 * ((n - 1 - i) % 8)))
def rdVi (F : Nat → Nat) (n A i : Nat) : Nat := stw 4 A (((n : Int) - 1 - (i : Int)) / 8).toNat (lm A (((n : Int) - 1 - (i : Int)) / 8).toNat + F i * 2 ^ ((8 : Int) * (((n : Int) - 1 - (i : Int)) % 8)).toNat)
/-- the number, the highest byte first -/
def rn (F : Nat → Nat) : Nat → Nat
  | 0 => 0
  | n + 1 => rn F n * 256 + F n

theorem rd_round {w0 : Base} {F : Nat → Nat} {n A i : Nat} (hi : i < n) (hn : n ≤ 32) (hb : lm A ((n - 1 - i) / 8) + F i * 2 ^ (8 * ((n - 1 - i) % 8)) < 18446744073709551616) :
    Goes Try.prog Try.f85.ntmps w0 [.code (roundOf 0 (bodyOf Try.f85))] .norm (kn (rdS n i) (rdH n F A)) fun k o σ => k = [] ∧ o = .norm ∧ σ = kn (rdS n (i + 1)) (rdH n F (rdV F n A i)) := by
  have e6 : (((n : Int) - 1 - (i : Int)) / 8).toNat = (n - 1 - i) / 8 := by omega
  have e7 : ((8 : Int) * (((n : Int) - 1 - (i : Int)) % 8)).toNat = 8 * ((n - 1 - i) % 8) := by omega
  have e8 : rdVi F n A i = rdV F n A i := by unfold rdVi rdV; rw [e6, e7]
  rw [← e8]
  have h3 : (0 : Int) ≤ ((F i * 2 ^ (8 * ((n - 1 - i) % 8)) : Nat) : Int) := Int.natCast_nonneg _
  have h4 : F i ≤ F i * 2 ^ (8 * ((n - 1 - i) % 8)) := Nat.le_mul_of_pos_right _ (Nat.pow_pos (by omega))
  exact goes (ctx_ok tabU_ok 49) mixed rfl (gs := []) (gh := []) (orc := way []) (stops := []) (f := 3000) (k := [.code (roundOf 0 (bodyOf Try.f85))]) (o := .norm) (σ := (kn (rdS n i) (rdH n F A))) (cs := [True, True, True, (↑i : Int) < (↑n : Int), True, True, (-9223372036854775808 : Int) ≤ (↑n : Int) - (1 : Int) ∧ (↑n : Int) - (1 : Int) < (9223372036854775808 : Int), True, (-9223372036854775808 : Int) ≤ (↑n : Int) - (1 : Int) - (↑i : Int) ∧ (↑n : Int) - (1 : Int) - (↑i : Int) < (9223372036854775808 : Int), True, True, (0 : Int) ≤ (↑n : Int) - (1 : Int) - (↑i : Int) ∧ (-9223372036854775808 : Int) ≤ ((↑n : Int) - (1 : Int) - (↑i : Int)) / (8 : Int) ∧ ((↑n : Int) - (1 : Int) - (↑i : Int)) / (8 : Int) < (9223372036854775808 : Int), (0 : Int) ≤ ((↑n : Int) - (1 : Int) - (↑i : Int)) / (8 : Int) ∧ ((↑n : Int) - (1 : Int) - (↑i : Int)) / (8 : Int) < (↑(4 : Nat) : Int), Int.toNat (((↑n : Int) - (1 : Int) - (↑i : Int)) / (8 : Int)) < (4 : Nat), True, True, (0 : Int) ≤ (↑i : Int) ∧ (↑i : Int) < (↑n : Int), addO (0 : Nat) i < n, (0 : Int) ≤ (↑(F (addO (0 : Nat) (Int.toNat (Prod.snd (IntKind.i64, (↑i : Int)))))) : Int) ∧ (↑(F (addO (0 : Nat) (Int.toNat (Prod.snd (IntKind.i64, (↑i : Int)))))) : Int) < (18446744073709551616 : Int), True, (0 : Int) ≤ (↑n : Int) - (1 : Int) - (↑i : Int), (-9223372036854775808 : Int) ≤ (8 : Int) * (((↑n : Int) - (1 : Int) - (↑i : Int)) % (8 : Int)) ∧ (8 : Int) * (((↑n : Int) - (1 : Int) - (↑i : Int)) % (8 : Int)) < (9223372036854775808 : Int), (0 : Int) ≤ (↑(F (addO (0 : Nat) (Int.toNat (Prod.snd (IntKind.i64, (↑i : Int)))))) : Int) ∧ (0 : Int) ≤ (8 : Int) * (((↑n : Int) - (1 : Int) - (↑i : Int)) % (8 : Int)) ∧ (8 : Int) * (((↑n : Int) - (1 : Int) - (↑i : Int)) % (8 : Int)) < (64 : Int) ∧ (0 : Int) ≤ (↑(F (addO (0 : Nat) (Int.toNat (Prod.snd (IntKind.i64, (↑i : Int))))) * (2 : Nat) ^ Int.toNat ((8 : Int) * (((↑n : Int) - (1 : Int) - (↑i : Int)) % (8 : Int)))) : Int) ∧ (↑(F (addO (0 : Nat) (Int.toNat (Prod.snd (IntKind.i64, (↑i : Int))))) * (2 : Nat) ^ Int.toNat ((8 : Int) * (((↑n : Int) - (1 : Int) - (↑i : Int)) % (8 : Int)))) : Int) < (18446744073709551616 : Int), (0 : Int) ≤ (↑(lm A (Int.toNat (((↑n : Int) - (1 : Int) - (↑i : Int)) / (8 : Int)))) : Int) + (↑(F (addO (0 : Nat) (Int.toNat (Prod.snd (IntKind.i64, (↑i : Int))))) * (2 : Nat) ^ Int.toNat ((8 : Int) * (((↑n : Int) - (1 : Int) - (↑i : Int)) % (8 : Int)))) : Int) ∧ (↑(lm A (Int.toNat (((↑n : Int) - (1 : Int) - (↑i : Int)) / (8 : Int)))) : Int) + (↑(F (addO (0 : Nat) (Int.toNat (Prod.snd (IntKind.i64, (↑i : Int))))) * (2 : Nat) ^ Int.toNat ((8 : Int) * (((↑n : Int) - (1 : Int) - (↑i : Int)) % (8 : Int)))) : Int) < (18446744073709551616 : Int), (0 : Int) ≤ ((↑n : Int) - (1 : Int) - (↑i : Int)) / (8 : Int) ∧ ((↑n : Int) - (1 : Int) - (↑i : Int)) / (8 : Int) < (↑(4 : Nat) : Int), Int.toNat (((↑n : Int) - (1 : Int) - (↑i : Int)) / (8 : Int)) < (4 : Nat) ∧ (0 : Int) ≤ (↑(lm A (Int.toNat (((↑n : Int) - (1 : Int) - (↑i : Int)) / (8 : Int)))) : Int) + (↑(F (addO (0 : Nat) (Int.toNat (Prod.snd (IntKind.i64, (↑i : Int))))) * (2 : Nat) ^ Int.toNat ((8 : Int) * (((↑n : Int) - (1 : Int) - (↑i : Int)) % (8 : Int)))) : Int) ∧ (↑(lm A (Int.toNat (((↑n : Int) - (1 : Int) - (↑i : Int)) / (8 : Int)))) : Int) + (↑(F (addO (0 : Nat) (Int.toNat (Prod.snd (IntKind.i64, (↑i : Int))))) * (2 : Nat) ^ Int.toNat ((8 : Int) * (((↑n : Int) - (1 : Int) - (↑i : Int)) % (8 : Int)))) : Int) < (18446744073709551616 : Int), True, (-9223372036854775808 : Int) ≤ (↑i : Int) + (1 : Int) ∧ (↑i : Int) + (1 : Int) < (9223372036854775808 : Int), True]) (k' := []) (o' := .norm) (S := (rdS n (i + 1))) (H := (rdH n F (rdVi F n A i))) (by kernel_rfl) (by kernel_rfl) (by simp only [conj, and_true, true_and, addO_eq, Nat.zero_add, Int.toNat_natCast, e6, e7]; omega)

theorem rn_lt {F : Nat → Nat} {n : Nat} (h : ∀ i, i < n → F i < 256) : rn F n < 256 ^ n := by
  induction n with
  | zero => simp [rn]
  | succ n ih =>
    have h1 := ih fun i hi => h i (by omega)
    have h2 := h n (by omega)
    rw [rn, Nat.pow_succ]; omega

/-- a byte more, in its place -/
theorem rd_step {F : Nat → Nat} {n i : Nat} (hi : i < n) (hn : n ≤ 32) (hF : ∀ k, k < n → F k < 256) :
    rdV F n (rn F i * 256 ^ (n - i)) i = rn F (i + 1) * 256 ^ (n - (i + 1)) ∧ lm (rn F i * 256 ^ (n - i)) ((n - 1 - i) / 8) + F i * 2 ^ (8 * ((n - 1 - i) % 8)) < 18446744073709551616 := by
  obtain ⟨k, hk⟩ : ∃ k, k = n - 1 - i := ⟨_, rfl⟩
  have hni : n - i = k + 1 := by omega
  have hni2 : n - (i + 1) = k := by omega
  have h0 := rn_lt (F := F) (n := i) fun j hj => hF j (by omega)
  have hFi := hF i hi
  unfold rdV
  rw [← hk, hni, hni2]
  generalize hr : rn F i = R at *
  have hp : (256 : Nat) ^ k = 18446744073709551616 ^ (k / 8) * 2 ^ (8 * (k % 8)) := by
    rw [word_pow, show (256 : Nat) = 2 ^ 8 from rfl, ← Nat.pow_mul]
    congr 1; omega
  have hA : R * 256 ^ (k + 1) < pow64 4 := by
    have e : pow64 4 = 256 ^ 32 := rfl
    rw [e]
    have h1 : (R + 1) * 256 ^ (k + 1) ≤ 256 ^ i * 256 ^ (k + 1) := Nat.mul_le_mul_right _ h0
    rw [← Nat.pow_add] at h1
    have h2 : 256 ^ (i + (k + 1)) ≤ 256 ^ 32 := Nat.pow_le_pow_right (by omega) (by omega)
    have h3 : 0 < 256 ^ (k + 1) := Nat.pow_pos (by omega)
    rw [Nat.add_mul, Nat.one_mul] at h1
    omega
  have hdiv : R * 256 ^ (k + 1) / 18446744073709551616 ^ (k / 8) = R * 256 * 2 ^ (8 * (k % 8)) := by
    rw [Nat.pow_succ, hp, show R * (18446744073709551616 ^ (k / 8) * 2 ^ (8 * (k % 8)) * 256) = 18446744073709551616 ^ (k / 8) * (R * 256 * 2 ^ (8 * (k % 8))) by ac_rfl, Nat.mul_div_cancel_left _ (Nat.pow_pos (by omega))]
  have hb : lm (R * 256 ^ (k + 1)) (k / 8) + F i * 2 ^ (8 * (k % 8)) < 18446744073709551616 := by
    rw [show lm (R * 256 ^ (k + 1)) (k / 8) = R * 256 ^ (k + 1) / 18446744073709551616 ^ (k / 8) % 18446744073709551616 from rfl, hdiv]
    have hr8 : k % 8 < 8 := Nat.mod_lt _ (by omega)
    generalize k % 8 = r at hr8
    obtain ⟨t, ht⟩ : ∃ t, 18446744073709551616 = 256 * 2 ^ (8 * r) * t := ⟨2 ^ (56 - 8 * r), by
      rw [show (256 : Nat) = 2 ^ 8 from rfl, ← Nat.pow_add, ← Nat.pow_add, show 8 + 8 * r + (56 - 8 * r) = 64 by omega]⟩
    have ht0 : 0 < t := by
      rcases Nat.eq_zero_or_pos t with e | e
      · rw [e, Nat.mul_zero] at ht; cases ht
      · exact e
    have e5 : R * 256 * 2 ^ (8 * r) % 18446744073709551616 = 256 * 2 ^ (8 * r) * (R % t) := by
      rw [ht, show R * 256 * 2 ^ (8 * r) = 256 * 2 ^ (8 * r) * R by ac_rfl, Nat.mul_mod_mul_left]
    have e6 := Nat.mod_lt R ht0
    have e7 : 256 * 2 ^ (8 * r) * (R % t + 1) ≤ 256 * 2 ^ (8 * r) * t := Nat.mul_le_mul_left _ e6
    rw [Nat.mul_add, Nat.mul_one, ← ht] at e7
    have e8 : (F i + 1) * 2 ^ (8 * r) ≤ 256 * 2 ^ (8 * r) := Nat.mul_le_mul_right _ hFi
    rw [Nat.add_mul, Nat.one_mul] at e8
    have e9 : 0 < 2 ^ (8 * r) := Nat.pow_pos (by omega)
    rw [e5]
    omega
  refine ⟨?_, hb⟩
  have h6 := stw_add (v := lm (R * 256 ^ (k + 1)) (k / 8) + F i * 2 ^ (8 * (k % 8))) hA (by omega : k / 8 < 4)
  rw [Nat.add_mul, Nat.mul_assoc (F i), Nat.mul_comm (2 ^ (8 * (k % 8))), ← hp] at h6
  have e10 : rn F (i + 1) * 256 ^ k = R * 256 ^ (k + 1) + F i * 256 ^ k := by
    rw [rn, hr, Nat.add_mul, Nat.pow_succ, Nat.mul_assoc, Nat.mul_comm 256]
  omega

/-- may these bytes be a number's? -/
def rdOK (F : Nat → Nat) (n : Nat) : Prop := n ≤ 32 ∧ (n = 0 ∨ F 0 ≠ 0)

theorem read_bad {w0 : Base} {F : Nat → Nat} {n : Nat} (h : 32 < n ∨ (0 < n ∧ F 0 = 0)) : Goes Try.prog Try.f85.ntmps w0 [.code (bodyOf Try.f85)] .norm (kn (rdA n) [(1000, .row false 5 1 n (row8 F))])
    (Fin (ctx tabU 49) Try.f85.results.toList fun v _ => v = .tup [N 0, B false]) := by
  by_cases h1 : 32 < n
  · exact goes_ret (ctx_ok tabU_ok 49) mixed rfl (orc := way []) (stops := []) (f := 3000) (k := [.code (bodyOf Try.f85)]) (o := .norm) (σ := (kn (rdA n) [(1000, .row false 5 1 n (row8 F))])) (cs := [True, True, True, True, (32 : Int) < (↑n : Int), True, True, True, True, True, True, True, True, True, True, True, True, True, True]) (o' := .ret) (rs := Try.f85.results.toList) (v := (.tup [N 0, B false])) (H := ([] : List (Nat × Bk))) (by kernel_rfl) (.inr rfl) (by simp only [conj, and_true, true_and]; omega) fun _ _ => rfl
  · have h2 : 0 < n ∧ F 0 = 0 := by omega
    exact goes_ret (ctx_ok tabU_ok 49) mixed rfl (orc := way [(9, 1)]) (stops := []) (f := 3000) (k := [.code (bodyOf Try.f85)]) (o := .norm) (σ := (kn (rdA n) [(1000, .row false 5 1 n (row8 F))])) (cs := [True, True, True, True, ¬(32 : Int) < (↑n : Int), True, True, True, (0 : Int) < (↑n : Int), True, True, (0 : Int) ≤ (0 : Int) ∧ (0 : Int) < (↑n : Int), addO (0 : Nat) (0) < n, (↑(F (addO (0 : Nat) (Int.toNat (Prod.snd (IntKind.i64, (0 : Int)))))) : Int) = (0 : Int), True, True, True, True, True]) (o' := .ret) (rs := Try.f85.results.toList) (v := (.tup [N 0, B false])) (H := ([] : List (Nat × Bk))) (by kernel_rfl) (.inr rfl) (by simp only [conj, and_true, true_and, addO_eq, Nat.zero_add, Int.toNat_zero, h2.2]; omega) fun _ _ => rfl

theorem read_good {w0 : Base} {F : Nat → Nat} {n : Nat} (hn : n ≤ 32) (h0 : 0 < n) (h1 : F 0 ≠ 0) (hF : ∀ k, k < n → F k < 256) : Goes Try.prog Try.f85.ntmps w0 [.code (bodyOf Try.f85)] .norm (kn (rdA n) [(1000, .row false 5 1 n (row8 F))])
    (Fin (ctx tabU 49) Try.f85.results.toList fun v _ => v = .tup [N (rn F n), B true]) := by
  refine (goes (ctx_ok tabU_ok 49) mixed rfl (gs := [5]) (gh := []) (orc := way [(9, 1), (18, 1)]) (stops := [0]) (f := 3000) (k := [.code (bodyOf Try.f85)]) (o := .norm) (σ := (kn (rdA n) [(1000, .row false 5 1 n (row8 F))])) (cs := [True, True, True, True, ¬(32 : Int) < (↑n : Int), True, True, True, (0 : Int) < (↑n : Int), True, True, (0 : Int) ≤ (0 : Int) ∧ (0 : Int) < (↑n : Int), addO (0 : Nat) (0) < n, ¬(↑(F (addO (0 : Nat) (Int.toNat (Prod.snd (IntKind.i64, (0 : Int)))))) : Int) = (0 : Int), True, True, True, True]) (k' := (kOf 0 (bodyOf Try.f85))) (o' := .norm) (S := (rdS n 0)) (H := (rdH n F 0)) (by kernel_rfl) (by kernel_rfl) (by simp only [conj, and_true, true_and, addO_eq, Nat.zero_add, Int.toNat_zero]; omega)).bind ?_
  rintro k o σ ⟨rfl, rfl, rfl⟩
  have hk : kOf 0 (bodyOf Try.f85) = .code (.block 0 (.loop (roundOf 0 (bodyOf Try.f85)))) :: restOf 0 (bodyOf Try.f85) := by kernel_rfl
  rw [hk]
  refine (goes_loop (fun p : Nat × Nat => kn (rdS n p.1) (rdH n F p.2)) (fun p => p.1 ≤ n ∧ p.2 = rn F p.1 * 256 ^ (n - p.1)) (fun p => n - p.1)
    (fun o σ => o = .norm ∧ σ = kn (rdS n n) (rdH n F (rn F n))) ?_ (p := (0, 0)) ⟨Nat.zero_le _, by show 0 = 0 * _; rw [Nat.zero_mul]⟩).bind ?_
  · rintro ⟨i, A⟩ ⟨g1, g2⟩
    simp only at g1 g2
    by_cases hi : i < n
    · obtain ⟨e1, e2⟩ := rd_step hi hn hF
      subst g2
      refine (rd_round hi hn e2).mono ?_
      rintro k o σ ⟨rfl, rfl, rfl⟩
      exact ⟨rfl, .inl ⟨rfl, (i + 1, _), ⟨hi, e1⟩, by show n - (i + 1) < n - i; omega, rfl⟩⟩
    · obtain rfl : i = n := by omega
      rw [Nat.sub_self, Nat.pow_zero, Nat.mul_one] at g2
      subst g2
      refine (goes (ctx_ok tabU_ok 49) mixed rfl (gs := []) (gh := []) (orc := way [(25, 1)]) (stops := []) (f := 3000) (k := [.code (roundOf 0 (bodyOf Try.f85))]) (o := .norm) (σ := (kn (rdS i i) (rdH i F (rn F i)))) (cs := [True, True, True, ¬(↑i : Int) < (↑i : Int)]) (k' := []) (o' := (.exit 0)) (S := (rdS i i)) (H := (rdH i F (rn F i))) (by kernel_rfl) (by kernel_rfl) (by simp [conj])).mono ?_
      rintro k o σ ⟨rfl, rfl, rfl⟩
      exact ⟨rfl, .inr ⟨by simp, rfl, rfl⟩⟩
  · rintro k o σ ⟨rfl, rfl, rfl⟩
    exact goes_ret (ctx_ok tabU_ok 49) mixed rfl (orc := way []) (stops := []) (f := 3000) (k := (restOf 0 (bodyOf Try.f85))) (o := .norm) (σ := (kn (rdS n n) (rdH n F (rn F n)))) (cs := [True, True, True]) (o' := .ret) (rs := Try.f85.results.toList) (v := (.tup [N (rn F n), B true])) (H := ([] : List (Nat × Bk))) (by kernel_rfl) (.inr rfl) (by simp [conj]) fun _ _ => rfl

end M
end Go.Proofs.Ytmjdmhelmgcanaa

/- r01.Read as a contract. -/
namespace Go.Proofs.Ytmjdmhelmgcanaa
namespace M
open Go.RowKit
set_option linter.unusedSimpArgs false

def rb1 : List Av → Nat
  | [.int .u8 v] => v.toNat
  | [.lit .u8 v] => v.toNat
  | _ => 0
def rb (f : Nat → List Av) (i : Nat) : Nat := rb1 (f i)
/-- n bytes -/
def byt (f : Nat → List Av) (n : Nat) : Prop := rowC f n = rowC (row8 (rb f)) n ∧ ∀ i, i < n → rb f i < 256
def readK : DCon
  | [[(.sl _ 1 0 n, some (.row _ 5 1 n1 f))]] =>
    some [(n1 = n ∧ byt f n ∧ n ≤ 32 ∧ 0 < n ∧ rb f 0 ≠ 0, .tup [N (rn (rb f) n), B true]), (n1 = n ∧ byt f n ∧ (32 < n ∨ (0 < n ∧ rb f 0 = 0)), .tup [N 0, B false])]
  | [[(.nil, _)]] => some [(True, .tup [N 0, B true])]
  | _ => none

theorem read_nil {w0 : Base} : Goes Try.prog Try.f85.ntmps w0 [.code (bodyOf Try.f85)] .norm (kn (argS 0 [.one [.nil]]) [])
    (Fin (ctx tabU 49) Try.f85.results.toList fun v _ => v = .tup [N 0, B true]) :=
  goes_ret (ctx_ok tabU_ok 49) mixed rfl (orc := way []) (stops := []) (f := 3000) (k := [.code (bodyOf Try.f85)]) (o := .norm) (σ := (kn (argS 0 [.one [.nil]]) [])) (cs := [True, True, True, True, True, True, True, True, True, True, True, True, True, True, True, True, True, True, True, True, True, True, True, True, True]) (o' := .ret) (rs := Try.f85.results.toList) (v := (.tup [N 0, B true])) (H := ([] : List (Nat × Bk))) (by kernel_rfl) (.inr rfl) (by simp [conj]) fun _ _ => rfl

theorem rn_top {F : Nat → Nat} {n : Nat} (hn : n ≤ 32) (h : ∀ i, i < n → F i < 256) : rn F n < TOP := by
  have e : TOP = 256 ^ 32 := rfl
  rw [e]
  exact Nat.lt_of_lt_of_le (rn_lt h) (Nat.pow_le_pow_right (by omega) hn)

theorem rread_e : EOK ⟨85, 1, dcon readK⟩ := by
  refine dcon_ok (fun a w => Try.call85 a w) fun args l hl p hp hc => ?_
  unfold readK at hl
  split at hl
  · rename_i a n o n1 f
    cases hl
    have key : (n1 = n ∧ byt f n) ∧ p.2.all Av.plain ∧ ∀ w0, Goes Try.prog Try.f85.ntmps w0 [.code (bodyOf Try.f85)] .norm (kn (rdA n) [(1000, .row false 5 1 n (row8 (rb f)))]) (Fin (ctx tabU 49) Try.f85.results.toList fun v _ => v = p.2) := by
      simp only [List.mem_cons, List.not_mem_nil, or_false] at hp
      rcases hp with rfl | rfl
      · obtain ⟨h1, h2, h3, h4, h5⟩ := hc
        exact ⟨⟨h1, h2⟩, plain2 (rn_top h3 h2.2) (B_plain _), fun w0 => read_good h3 h4 h5 h2.2⟩
      · obtain ⟨h1, h2, h3⟩ := hc
        exact ⟨⟨h1, h2⟩, plain2 top_pos (B_plain _), fun w0 => read_bad h3⟩
    obtain ⟨⟨rfl, h2⟩, hpl, hg⟩ := key
    refine ⟨hpl, fun ρ w B' hargs => ?_⟩
    obtain ⟨ida, ha1, ha2, _⟩ := (hargs _ List.mem_cons_self _ List.mem_cons_self).2 _ rfl
    cases ha1
    let ρ2 : Env := ⟨fun _ => ρ.b a, fun _ => ρ.o a, fun _ => ρ.c a⟩
    have hin : InOK (base w ρ2) [.one [.sl 1000 1 0 n1]] [(1000, .row false 5 1 n1 (row8 (rb f)))] := by
      refine in_reads ?_ ?_
      · intro q hq
        simp only [List.mem_cons, List.not_mem_nil, or_false] at hq
        subst hq
        exact ⟨rfl, trivial, BSim.ok (.inr ⟨_, _, _, _, _, _, rfl, rfl, row8_OK _ _, h2.1⟩) (read_bk ha2 rfl rfl rfl)⟩
      · intro s hs
        simp only [List.mem_cons, List.not_mem_nil, or_false] at hs
        subst hs
        exact one1 (.inr ⟨1000, _, rfl, rfl⟩)
    refine (calls_of (ctx_ok tabU_ok 49) Try.func85 (c := bodyOf Try.f85) rfl rfl (Nat.le_of_ble_eq_true (by kernel_rfl)) hin (hg _)).mono ?_
    rintro e w' ⟨v, σ', ρ', a', rfl, rfl, hr, _⟩
    exact ⟨kept_below hr.below, by rw [den_plain hpl ρ ρ']⟩
  · cases hl
    simp only [List.mem_singleton] at hp
    subst hp
    have hpl : (Sv.tup [N 0, B true]).all Av.plain := plain2 top_pos (B_plain _)
    refine ⟨hpl, fun ρ w B' hargs => ?_⟩
    refine (calls_of (w0 := base w ρ) (ctx_ok tabU_ok 49) Try.func85 (c := bodyOf Try.f85) rfl rfl (args := [.one [.nil]]) (Nat.le_of_ble_eq_true (by kernel_rfl)) (plain_in (base w ρ) [[.nil]] (fun l hl a ha => by
      simp only [List.mem_singleton] at hl
      subst hl
      simp only [List.mem_singleton] at ha
      subst ha
      trivial)) read_nil).mono ?_
    rintro e w' ⟨v, σ', ρ', a', rfl, rfl, hr, _⟩
    exact ⟨kept_below hr.below, by rw [den_plain hpl ρ ρ']⟩
  · cases hl

end M
end Go.Proofs.Ytmjdmhelmgcanaa

/- Bytes of a number, and back: plain. -/
namespace Go.Proofs.Ytmjdmhelmgcanaa
namespace M
open Go.RowKit

theorem rn_congr {F G : Nat → Nat} {n : Nat} (h : ∀ i, i < n → F i = G i) : rn F n = rn G n := by
  induction n with
  | zero => rfl
  | succ n ih => rw [rn, rn, ih fun i hi => h i (by omega), h n (by omega)]

theorem rn_bys (x : Nat) : rn (bys x) (nb x) = x := by
  induction x using Nat.strongRecOn with
  | _ x ih =>
    rcases Nat.eq_zero_or_pos x with e | e
    · subst e; rw [nb_zero]; rfl
    · have hb : x % 256 < 256 := Nat.mod_lt _ (by omega)
      have hx : x = 256 * (x / 256) + x % 256 := (Nat.div_add_mod x 256).symm
      have hp : 0 < 256 * (x / 256) + x % 256 := by omega
      have h1 := nb_step hb hp
      have h2 := bys_last hb hp
      have h3 := rn_congr (n := nb (x / 256)) fun j hj => bys_step hb hp hj
      rw [← hx] at h1 h2 h3
      rw [h1, rn, h2, h3, ih (x / 256) (by omega)]
      omega

theorem rn_pos {F : Nat → Nat} {n : Nat} (h0 : 0 < n) (h : F 0 ≠ 0) : 0 < rn F n := by
  induction n with
  | zero => omega
  | succ n ih =>
    rw [rn]
    rcases Nat.eq_zero_or_pos n with e | e
    · subst e; omega
    · have := ih e; omega

theorem nb_rn {F : Nat → Nat} {n : Nat} (h : ∀ i, i < n → F i < 256) (h0 : 0 < n → F 0 ≠ 0) : nb (rn F n) = n ∧ ∀ j, j < n → bys (rn F n) j = F j := by
  induction n with
  | zero => exact ⟨nb_zero, fun j hj => by omega⟩
  | succ n ih =>
    obtain ⟨i1, i2⟩ := ih (fun i hi => h i (by omega)) (fun _ => h0 (by omega))
    have hp : 0 < 256 * rn F n + F n := by
      have := rn_pos (n := n + 1) (by omega) (h0 (by omega))
      rw [rn] at this; omega
    have hb := h n (by omega)
    have e : rn F (n + 1) = 256 * rn F n + F n := by rw [rn]; omega
    have h1 := nb_step hb hp
    have h2 := bys_last hb hp
    rw [e]
    refine ⟨by rw [h1, i1], fun j hj => ?_⟩
    rcases Nat.lt_or_eq_of_le (Nat.le_of_lt_succ hj) with hj | hj
    · rw [bys_step hb hp (by rw [i1]; exact hj), i2 j hj]
    · subst hj; rw [i1] at h2; exact h2

theorem bys_lt (x j : Nat) : bys x j < 256 := Nat.mod_lt _ (by omega)
theorem bys_zero {x : Nat} (h : 0 < x) : bys x 0 ≠ 0 := by
  induction x using Nat.strongRecOn with
  | _ x ih =>
    have hb : x % 256 < 256 := Nat.mod_lt _ (by omega)
    have hx : x = 256 * (x / 256) + x % 256 := (Nat.div_add_mod x 256).symm
    have hp : 0 < 256 * (x / 256) + x % 256 := by omega
    rcases Nat.eq_zero_or_pos (x / 256) with e | e
    · have h2 := bys_last hb hp
      rw [← hx, e, nb_zero] at h2
      rw [h2]; omega
    · have h2 := bys_step (j := 0) hb hp (by rw [nb_pos e]; omega)
      rw [← hx] at h2
      rw [h2]
      exact ih (x / 256) (by omega) e

end M
end Go.Proofs.Ytmjdmhelmgcanaa

/- The machine within a round of an iterator: regions without calls. -/
namespace Go.Proofs.Ytmjdmhelmgcanaa
namespace M
open Go.RowKit
variable {P : Program} {C : Ctx} {w0 : Base} {w w' : World} {ρ ρ' : Env} {σ σ' : Ms} {a : Act} {F : Fence} {n : Nat}

/-- it calls no function -/
def calm : Op → Bool
  | .move _ => true
  | .assign _ => true
  | .pick _ _ _ => true
  | .alloc _ => true
  | .box _ _ => true
  | .build _ _ => true
  | .buildSlice _ _ _ => true
  | .load _ _ => true
  | .store _ _ _ => true
  | .binOp _ _ _ _ _ => true
  | .unOp _ _ _ => true
  | .convert _ _ _ => true
  | .makeSlice _ _ _ => true
  | .fieldAddr _ _ _ => true
  | .field _ _ _ => true
  | .indexAddr _ _ _ => true
  | .index _ _ _ => true
  | .extract _ _ => true
  | .call { callee := .builtin .len, .. } => true
  | _ => false

def Mild : Result Next → Prop
  | .ok (.value _) _ => True
  | .ok .skip _ => True
  | .halt _ _ => True
  | _ => False

theorem mild_v (s : Sem Value) (w : World) : Mild ((do let v ← s; pure (.value v) : Sem Next).run P w) := by
  rw [Sem.run_bind]
  cases s.run P w <;> exact trivial
theorem mild_u (s : Sem Unit) (w : World) : Mild ((do s; pure .skip : Sem Next).run P w) := by
  rw [Sem.run_bind]
  cases s.run P w <;> exact trivial

theorem calm_mild {o : Oper} (h : calm o.op = true) (f : Operand → Value) (w : World) : Mild ((execOp f o).run P w) := by
  unfold execOp
  unfold calm at h
  split at h
  all_goals first
    | (exact absurd h Bool.false_ne_true)
    | (rename_i e; rw [e]; exact mild_v _ w)
    | (rename_i e; rw [e]; exact mild_u _ w)
    | (rename_i e; rw [e]; exact (trivial : Mild (.ok (.value _) w)))
    | (rename_i e
       rw [e]
       show Mild ((asBool _ >>= fun b => pure (.value (if b = true then _ else _)) : Sem Next).run P w)
       rw [Sem.run_bind]
       cases (asBool _).run P w <;> exact trivial)
    | (rename_i e
       rw [e]
       simp only [resolve, invoke, builtin, Sem.run_bind, Sem.run_pure, Result.andThen]
       cases (Builtin.len_ _ _ _).run P w <;> exact trivial)

theorem calm_about {o : Oper} (h : calm o.op = true) (f : Operand → Value) (w : World) : o.about P w f = none := by
  unfold Oper.about
  unfold calm at h
  split at h
  all_goals first
    | (exact absurd h Bool.false_ne_true)
    | (rename_i e; rw [e]; done)
    | (rename_i e; rw [e]; simp only [resolve, Sem.run_pure, Target.leads])

theorem calm_defer {o : Oper} (h : calm o.op = true) (c : Call) : o.op ≠ .defer c := fun e => by rw [e] at h; exact absurd h Bool.false_ne_true

theorem calm_in {o : Oper} (h : calm o.op = true) {K : Act → World → Prop} {Q : Exit → Act → World → Prop} (hw : o.wp P a w K Q) : o.wpIn F n P a w K Q := by
  refine ⟨fun f hf => (by rw [calm_about h] at hf; cases hf), ?_⟩
  rw [Oper.semAt_eq _ _ _ (calm_defer h)]
  have hm := calm_mild (P := P) h a.eval w
  unfold Oper.wp at hw
  revert hm hw
  cases (execOp a.eval o).run P w with
  | ok x w' =>
    cases x <;> intro hw hm <;> first | exact hw | exact hm.elim
  | halt x w' => cases x <;> intro hw hm <;> exact hw

def allCalm (ops : Array Oper) : Bool := ops.toList.all fun o => calm o.op
theorem allCalm_get {ops : Array Oper} (h : allCalm ops = true) {i : Nat} {o : Oper} (hi : ops[i]? = some o) : calm o.op = true :=
  List.all_eq_true.1 h o (by rw [← Array.getElem?_toList] at hi; exact List.mem_of_getElem? hi)

theorem raw_in_round (OK : CtxOK P C) (h : Rep C.nt w0 ρ σ a w) {orc : Nat → Nat} {ops : Array Oper} (hca : allCalm ops = true) {i : Nat} {o : Oper} (hi : ops[i]? = some o) {r : Prop × Sv × Eff} (hr : raw C orc ops o σ = some r) (hc : r.1)
    {K' : Act → World → Prop} {Q : Exit → Act → World → Prop} (hK : ∀ ρ' a' w', Rep C.nt w0 ρ' (app o r σ) a' w' → K' a' w') : wpOpIn F n P ops Q i K' a w := by
  have hcalm := allCalm_get hca hi
  unfold wpOpIn
  simp only [hi]
  unfold raw at hr
  cases hd : dstB C.nt o.dst with
  | false => rw [hd] at hr; cases hr
  | true =>
    rw [hd] at hr
    simp only [cond_true] at hr
    have hdst : dstIn C.nt o.dst := by
      cases hx : o.dst with
      | none => trivial
      | some d => rw [hx] at hd; exact Nat.le_of_ble_eq_true hd
    split at hr
    · rename_i hw
      rw [wanted_of h hw]
      simp only [if_true]
      exact calm_in hcalm (res_sound OK h hr hc hdst hK)
    · rename_i hw
      rw [wanted_of h hw]
      simp only [Option.some.injEq] at hr
      subst hr
      simp only [Bool.false_eq_true, if_false]
      exact ⟨fun f hf => (by rw [calm_about hcalm] at hf; cases hf), hK ρ _ _ (h.put (v := .tup []) hdst all0)⟩
    · cases hr

theorem runL_in (OK : CtxOK P C) {orc : Nat → Nat} {ops : Array Oper} (hca : allCalm ops = true) {Q : Exit → Act → World → Prop} : ∀ (l : List Oper) (k : Nat) (σ : Ms) (ρ : Env) (a : Act) (w : World), (∀ j, l[j]? = ops[k + j]?) →
    ∀ cs σ', runL C orc ops l σ = some (cs, σ') → conj cs → Rep C.nt w0 ρ σ a w → (∀ ρ' a' w', Rep C.nt w0 ρ' σ' a' w' → Q .normal a' w') →
    wpOpsIn F n P ops Q ((List.range l.length).map (k + ·)) a w
  | [], k, σ, ρ, a, w, _, cs, σ', hr, _, h, hQ => by
    simp only [runL, Option.some.injEq, Prod.mk.injEq] at hr
    obtain ⟨_, rfl⟩ := hr
    exact hQ _ _ _ h
  | o :: l, k, σ, ρ, a, w, hl, cs, σ', hr, hc, h, hQ => by
    simp only [runL] at hr
    obtain ⟨r, h1, hr⟩ := Option.bind_eq_some_iff.1 hr
    obtain ⟨q, h2, h3⟩ := Option.map_eq_some_iff.1 hr
    simp only [Prod.mk.injEq] at h3
    obtain ⟨rfl, rfl⟩ := h3
    have h0 : ops[k]? = some o := by simpa using (hl 0).symm
    have hlist : (List.range (o :: l).length).map (k + ·) = k :: (List.range l.length).map (k + 1 + ·) := by
      rw [List.length_cons, List.range_succ_eq_map]
      simp only [List.map_cons, Nat.add_zero, List.map_map, List.cons.injEq, true_and]
      congr 1
      funext x
      simp only [Function.comp_apply]
      omega
    rw [hlist, wpOpsIn_cons]
    refine raw_in_round OK h hca h0 h1 hc.1 fun ρ' a' w' h' => ?_
    exact runL_in OK hca l (k + 1) _ ρ' a' w' (fun j => by have := hl (j + 1); simpa [Nat.add_assoc, Nat.add_comm 1 j] using this) q.1 q.2 h2 hc.2 h' hQ

theorem wpAnyIn_of_abs (OK : CtxOK P C) {orc : Nat → Nat} {md : Region.Mode} {ops : Array Oper} (hca : allCalm ops = true) {R : Ms → Prop} {Q : Exit → Act → World → Prop} (hQ : ∀ σ ρ a w, R σ → Rep C.nt w0 ρ σ a w → Q .normal a w) :
    ∀ (f : Nat) (listed : Array Bool) (σ : Ms) (ρ : Env) (a : Act) (w : World), absAny C orc md ops R f listed σ → Rep C.nt w0 ρ σ a w → wpAnyIn F n P md ops Q f listed a w
  | 0, listed, σ, ρ, a, w, h, hr => ⟨h.1, hQ _ _ _ _ h.2 hr⟩
  | f + 1, listed, σ, ρ, a, w, h, hr => by
    refine ⟨fun h0 => hQ _ _ _ _ (h.1 h0) hr, fun i hi => ?_⟩
    obtain ⟨o, r, ho, hraw, hc, hrest⟩ := h.2 i hi
    exact raw_in_round OK hr hca ho hraw hc fun ρ' a' w' h' => wpAnyIn_of_abs OK hca hQ f _ _ ρ' a' w' hrest h'

/-- what is looked at of a region -/
def seeL (gs gh is hs : List Nat) (r : Option (List Prop × Ms)) : Option (List Prop × List Sv × List (Option Bk)) :=
  r.map fun q => (q.1, is.map fun i => genV (isIn i gs) (q.2.slots i), hs.map fun i => (q.2.heap i).map (genK (isIn i gh)))

/-- a region within a round -/
theorem reg_in (OK : CtxOK P C) {orc : Nat → Nat} {gs gh : List Nat} {ops : Array Oper} (hca : allCalm ops = true) {rid : Nat} {Q : Exit → Act → World → Prop} {cs : List Prop} {S : List (Nat × Sv)} {H : List (Nat × Bk)}
    (h : seeL gs gh (S.map (·.1)) (H.map (·.1)) (runL C orc ops ops.toList σ) = some (cs, S.map (·.2), H.map fun p => some p.2)) (hcl : closedB C.nt S H = true) (hc : conj cs)
    (hr : Rep C.nt w0 ρ σ a w) (hQ : ∀ ρ' a' w', Rep C.nt w0 ρ' (kn S H) a' w' → Q .normal a' w') : (Code.region rid ops false).wpIn F n P Q a w := by
  obtain ⟨⟨cs1, σ1⟩, h1, h2⟩ := Option.map_eq_some_iff.1 h
  simp only [Prod.mk.injEq] at h2
  obtain ⟨rfl, h3, h4⟩ := h2
  have hS := map_eq_mem (f := fun i => genV (isIn i gs) (σ1.slots i)) (g := id) h3
  have hH := map_eq_mem (f := fun i => (σ1.heap i).map (genK (isIn i gh))) (g := some) h4
  refine wpIn_region ?_
  have := runL_in (F := F) (n := n) OK hca (Q := Q) ops.toList 0 σ ρ a w (fun j => by simp) cs1 σ1 h1 hc hr fun ρ' a' w' h' => hQ ρ' a' w' (h'.look hS hH hcl)
  simpa using this

theorem reg_draw_in (OK : CtxOK P C) (hm : P.follows .mixedOrders = true) {orc : Nat → Nat} {gs gh : List Nat} {ops : Array Oper} (hca : allCalm ops = true) {rid : Nat} {Q : Exit → Act → World → Prop} {cs : List Prop} {S : List (Nat × Sv)} {H : List (Nat × Bk)}
    (h : seeL gs gh (S.map (·.1)) (H.map (·.1)) (runL C orc ops ops.toList σ) = some (cs, S.map (·.2), H.map fun p => some p.2)) (hB : lexI C (frozen ops.toList σ.slots) ops ops.size 0 (Array.replicate ops.size false) = true) (hcl : closedB C.nt S H = true) (hc : conj cs)
    (hr : Rep C.nt w0 ρ σ a w) (hQ : ∀ ρ' a' w', Rep C.nt w0 ρ' (kn S H) a' w' → Q .normal a' w') : (Code.region rid ops true).wpIn F n P Q a w := by
  obtain ⟨⟨cs1, σ1⟩, h1, h2⟩ := Option.map_eq_some_iff.1 h
  simp only [Prod.mk.injEq] at h2
  obtain ⟨rfl, h3, h4⟩ := h2
  have hS := map_eq_mem (f := fun i => genV (isIn i gs) (σ1.slots i)) (g := id) h3
  have hH := map_eq_mem (f := fun i => (σ1.heap i).map (genK (isIn i gh))) (g := some) h4
  refine wpIn_region_any hm ?_
  have habs := abs_of_lex OK.toCtxD frozen_dst ops.toList 0 (Array.replicate ops.size false) σ hr.wf (frozen_keeps ops.toList σ) (fun j => by simp) (by simpa using hB) cs1 σ1 h1 hc
  have := wpAnyIn_of_abs (F := F) (n := n) OK hca (Q := Q) (w0 := w0) (fun s ρ a w hs hrep => by subst hs; exact hQ _ _ _ (hrep.look hS hH hcl)) _ _ σ ρ a _ habs hr.drew
  simpa using this

/-- a state out of what is in memory and in the slots -/
theorem rep_start {nt : Nat} {S : List (Nat × Sv)} {H : List (Nat × Bk)} {ac : Act} (hsz : ac.tmps.size = nt) (hdef : ac.defers = []) (hS : ∀ i, i < nt → lookS S i = .any ∨ ac.eval (.tmp i) = (lookS S i).den w0.ρ)
    (hb : ∀ id k, lookH H id = some k → BkOK w0.ρ w0.w w0.F id k) (hnm : ∀ id k, lookH H id = some k → k.named (AvOK (kn S H))) (hok : ∀ i, (lookS S i).all (AvOK (kn S H)))
    (hinj : ∀ i j ki kj, lookH H i = some ki → lookH H j = some kj → ki.own = true → kj.own = true → w0.ρ.b i = w0.ρ.b j → i = j) : Rep nt w0 w0.ρ (kn S H) ac w0.w := by
  refine ⟨hsz, hdef, fun i hi => hS i hi, ⟨rfl, rfl, rfl, Nat.le_refl _, fun _ _ _ => rfl⟩, hb, hinj, hok, hnm, fun id hid => ?_, fun i hi => ⟨?_, rfl, rfl, rfl⟩⟩
  · show (Nat.ble 1000 id || (lookH H id).isSome) = true
    have : (lookH H id).isSome = true := hid
    rw [this, Bool.or_true]
  · show (Nat.ble 1000 i || (lookH H i).isSome) = true
    rw [Nat.ble_eq_true_of_le hi, Bool.true_or]

end M
end Go.Proofs.Ytmjdmhelmgcanaa

/- num.Read: the bytes from the lowest on, by the library's iterator. -/
namespace Go.Proofs.Ytmjdmhelmgcanaa
open Go.RowKit Go.Shelf

attribute [local go_sem] Oper.semAt_some

/-- what the iterator needs stays -/
structure KpR (Bs b : Nat) (A B : World) : Prop where
  size : A.heap.size ≤ B.heap.size
  one : B.heap[Bs]? = A.heap[Bs]?
  two : B.heap[b]? = A.heap[b]?
theorem KpR.refl (Bs b : Nat) (A : World) : KpR Bs b A A := ⟨Nat.le_refl _, rfl, rfl⟩
theorem KpR.trans {Bs b : Nat} {A B C : World} (h : KpR Bs b A B) (k : KpR Bs b B C) : KpR Bs b A C := ⟨Nat.le_trans h.size k.size, k.one.trans h.one, k.two.trans h.two⟩
theorem KpR.cell {Bs b : Nat} {A B : World} (h : KpR Bs b A B) (j : Nat) : B.cell? ⟨b, j, none⟩ = A.cell? ⟨b, j, none⟩ := World.cell?_of_block (w := A) (a := ⟨b, j, none⟩) h.two
theorem KpR.cellS {Bs b : Nat} {A B : World} (h : KpR Bs b A B) (j : Nat) : B.cell? ⟨Bs, j, none⟩ = A.cell? ⟨Bs, j, none⟩ := World.cell?_of_block (w := A) (a := ⟨Bs, j, none⟩) h.one

def finL (len : Nat) : Nat → List (Fin len)
  | 0 => []
  | k + 1 => if h : k < len then finL len k ++ [⟨k, h⟩] else finL len k

set_option maxRecDepth 100000 in
set_option maxHeartbeats 2000000 in
theorem back8_in (F : Fence) (n : Nat) (h : F.fn 118) (hro : F.round = none) (hn : 1 ≤ n) (l Bs b off len cap : Nat) (a : Option Addr) (ha : 0 < len → a = some ⟨b, off, none⟩) (z : Nat → Nat) (hlen : len ≤ 32) (J Jx : List (Fin len) → World → Prop)
    (hY : ∀ (pre : List (Fin len)) (x : Fin len) W, J pre W → pre.length < len → YieldAt F (n - 1) Try.prog l #[.int .i64 ((len - 1 - (x : Nat) : Nat) : Int), .int .u8 (z (len - 1 - x))] W fun e W' =>
      (e = .returned (.bool true) ∧ J (pre ++ [x]) W' ∧ KpR Bs b W W') ∨ (e = .returned (.bool false) ∧ Jx (pre ++ [x]) W'))
    (W : World) (hBs : W.cell? ⟨Bs, 0, none⟩ = some (.slice a len cap)) (hc : ∀ j, j < len → W.cell? ⟨b, off + j, none⟩ = some (.int .u8 (z j))) (hfl : ∀ k, k ≤ len → (finL len k).length = k) (h0 : J [] W) :
    CallsIn F n Try.prog 118 #[.func (.yield l) #[] #[], .pointer (some ⟨Bs, 0, none⟩)] W fun e W' => (∃ v, e = .returned v) ∧
      ((∃ ys, ys = finL len len ∧ J ys W') ∨ (∃ pre, True ∧ Jx pre W')) := by
  refine callsIn_of_wp Try.func118 rfl h ?_ hro
  simp only [Try.ntmps118, List.size_toArray, List.length_cons, List.length_nil, Nat.reduceAdd, Nat.reduceSub, Array.replicate_succ, Array.replicate_zero, List.push_toArray, List.append_toArray, List.nil_append, List.cons_append]
  gi_wp2
  gi_loopw [3] (fun i wr => ∃ k : Nat, k ≤ len ∧ i = .int .i64 ((len : Int) - 1 - (k : Int)) ∧ J (finL len k) wr ∧ KpR Bs b W wr)
    (fun i _ => (intOf i + 1).toNat)
  case atStart => exact ⟨0, Nat.zero_le _, by simp, h0, KpR.refl _ _ _⟩
  case round =>
    obtain ⟨k, hk, rfl, hJs, hnx⟩ := hrel
    have cBs := (hnx.cellS 0).trans hBs
    by_cases hkl : k < len
    · have ha' := ha (by omega)
      subst ha'
      have c0 := (hnx.cell (off + (len - 1 - k))).trans (hc (len - 1 - k) (by omega))
      have e1 : ((len : Int) - 1 - (k : Int)) = ((len - 1 - k : Nat) : Int) := by omega
      obtain ⟨fn, tmps, assign, body, hy, hR⟩ := hY _ ⟨k, hkl⟩ wr hJs (by rw [hfl k hk]; exact hkl)
      have hge : (0 : Int) ≤ (len : Int) - 1 - (k : Int) := by omega
      have hfin : finL len (k + 1) = finL len k ++ [⟨k, hkl⟩] := by rw [finL, dif_pos hkl]
      gi_wp2
      refine hR.mono ?_
      rintro e W3 (⟨rfl, hJ3, hk3⟩ | ⟨rfl, hJx3⟩)
      · gi_wp2
        go_roundw
        case rel => exact ⟨k + 1, hkl, by congr 1; omega, by rw [hfin]; exact hJ3, hnx.trans hk3⟩
        case measure => simp [intOf]; omega
      · gi_wp2
        refine bodyPost_ret (results_none rfl _ _ _) rfl ?_
        exact ⟨⟨_, rfl⟩, .inr ⟨_, trivial, hJx3⟩⟩
    · obtain rfl : k = len := by omega
      have e1 : ((k : Int) - 1 - (k : Int)) = -1 := by omega
      rw [e1]
      gi_wp2
      go_end0
      exact ⟨⟨_, rfl⟩, .inl ⟨_, rfl, hJs⟩⟩

theorem finL_length {len : Nat} : ∀ k, k ≤ len → (finL len k).length = k
  | 0, _ => rfl
  | k + 1, h => by rw [finL, dif_pos (by omega : k < len), List.length_append, finL_length k (by omega)]; rfl
theorem finL_map {len : Nat} : ∀ k, k ≤ len → (finL len k).map (fun x => x.val) = List.range k
  | 0, _ => rfl
  | k + 1, h => by rw [finL, dif_pos (by omega : k < len), List.map_append, finL_map k (by omega), List.range_succ]; rfl

theorem back8_stops (F : Fence) (n : Nat) (h : F.fn 118) (hro : F.round = none) (hn : 1 ≤ n) (Bs b off len cap : Nat) (a : Option Addr) (ha : 0 < len → a = some ⟨b, off, none⟩) (z : Nat → Nat) (hlen : len ≤ 32) (w : World) (hb : 0 < len → b < w.heap.size) (hBs0 : Bs < w.heap.size)
    (hBs : w.cell? ⟨Bs, 0, none⟩ = some (.slice a len cap)) (hc : ∀ j, j < len → w.cell? ⟨b, off + j, none⟩ = some (.int .u8 (z j))) :
    SeqStopsK F n Try.prog 118 #[.pointer (some ⟨Bs, 0, none⟩)] (fun x : Fin len => #[Value.int .i64 ((len - 1 - (x : Nat) : Nat) : Int), Value.int .u8 (z (len - 1 - x))]) (KpR Bs b) (fun ys => ys = finL len len)
      (fun _ => True) len w := fun l J Jx W hW _ _ hY h0 =>
  back8_in F n h hro hn l Bs b off len cap a ha z hlen J Jx hY W ((hW.cell (p := ⟨Bs, 0, none⟩) hBs0).trans hBs) (fun j hj => (hW.cell (p := ⟨b, off + j, none⟩) (hb (by omega))).trans (hc j hj)) finL_length h0

theorem backward8_in (F : Fence) (n : Nat) (h : F.fn 108) (hro : F.round = none) (a : Option Addr) (len cap : Nat) (w : World) :
    CallsIn F n Try.prog 108 #[.slice a len cap] w fun e w' => e = .returned (.func (.func 118) #[] #[.pointer (some ⟨w.heap.size, 0, none⟩)]) ∧ w' = w.alloc (.cells #[.slice a len cap] 74) := by
  refine callsIn_of_wp Try.func108 rfl h ?_ hro
  simp only [Try.ntmps108, List.size_toArray, List.length_cons, List.length_nil, Nat.reduceAdd, Nat.reduceSub, Array.replicate_succ, Array.replicate_zero, List.push_toArray, List.append_toArray, List.nil_append, List.cons_append]
  gi_wp2
  go_ret
  exact ⟨rfl, rfl⟩

/-- the lowest k bytes -/
def lowB (z : Nat → Nat) (len : Nat) : Nat → Nat
  | 0 => 0
  | k + 1 => lowB z len k + z (len - 1 - k) * 256 ^ k

theorem block_kept {W W' : World} {row : Option Nat} {b : Nat} {c : Array Value} {t : TypeId} {d : Nat × Nat} (h : W.heap[b]? = some (.cells c t d)) (hg : W.grownBy W' row) (hr : ∀ r, row = some r → ∃ o : Obj, W.heap[r]? = some o ∧ o.isCells = false) : W'.heap[b]? = some (.cells c t d) :=
  (grownBy_keeps_cells hg hr h rfl).trans h

end Go.Proofs.Ytmjdmhelmgcanaa

/- num.Read: a round. -/
namespace Go.Proofs.Ytmjdmhelmgcanaa
namespace M
open Go.RowKit
set_option linter.unusedSimpArgs false
set_option linter.unusedVariables false

/-- a statement's operations, by its number -/
noncomputable def regOf (id : Nat) : Code → Option (Array Oper)
  | .region i ops _ => bif Nat.beq i id then some ops else none
  | .seq x y => match regOf id x with
    | some o => some o
    | none => regOf id y
  | .block _ c => regOf id c
  | .cond _ x y => match regOf id x with
    | some o => some o
    | none => regOf id y
  | .loop c => regOf id c
  | .rangeFunc _ _ x y => match regOf id x with
    | some o => some o
    | none => regOf id y
  | _ => none
noncomputable def ops7 : Array Oper := (regOf 7 (bodyOf Try.f82)).getD #[]
noncomputable def ops8 : Array Oper := (regOf 8 (bodyOf Try.f82)).getD #[]
def riS (len x zv : Nat) : List (Nat × Sv) := [(1, .one [.ptr 1001 0]), (4, .one [.ptr 1002 0]), (5, .one [.int .i64 ((len - 1 - x : Nat) : Int)]), (6, .one [.int .u8 (zv : Nat)])]
def riH (len A : Nat) (z : Nat → Nat) : List (Nat × Bk) := [(1000, .row false 5 1 len (row8 z)), (1001, .var [.sl 1000 1 0 len] 74), (1002, .var [.big 4 A] 28)]
def riT (zv : Nat) (k : Int) : List (Nat × Sv) := [(4, .one [.ptr 1002 0]), (6, .one [.int .u8 (zv : Nat)]), (7, .one [.int .i64 k])]
def riV (A x zv : Nat) : Nat := stw 4 A ((x : Int) / 8).toNat (orN (lm A ((x : Int) / 8).toNat) (zv * 2 ^ ((8 : Int) * ((x : Int) % 8)).toNat))
def rdW (A x zv : Nat) : Nat := stw 4 A (x / 8) (orN (lm A (x / 8)) (zv * 2 ^ (8 * (x % 8))))

theorem riV_eq (A x zv : Nat) : riV A x zv = rdW A x zv := by
  have e1 : ((x : Int) / 8).toNat = x / 8 := by omega
  have e2 : ((8 : Int) * ((x : Int) % 8)).toNat = 8 * (x % 8) := by omega
  unfold riV rdW
  rw [e1, e2]

theorem rd_body {F : Fence} {n : Nat} {w0 : Base} {ρ : Env} {act : Act} {W : World} {Q : Exit → Act → World → Prop} {len A x zv : Nat} {z : Nat → Nat} (hx : x < len) (hlen : len ≤ 32) (hzv : zv < 256)
    (hr : Rep 45 w0 ρ (kn (riS len x zv) (riH len A z)) act W) (hQ : ∀ ρ' a' W', Rep 45 w0 ρ' (kn [] (riH len (rdW A x zv) z)) a' W' → Q .normal a' W') :
    (Code.block 1 (.seq (.region 7 ops7 false) (.region 8 ops8 true))).wpIn F n Try.prog Q act W := by
  refine wpIn_block (wpIn_seq ?_)
  refine reg_in (ctx_ok tabA_ok 45) (orc := way []) (gs := []) (gh := []) (ops := ops7) (by kernel_rfl) (σ := (kn (riS len x zv) (riH len A z))) (cs := [True, True, (-9223372036854775808 : Int) ≤ (↑len : Int) - (1 : Int) ∧ (↑len : Int) - (1 : Int) < (9223372036854775808 : Int), True, (-9223372036854775808 : Int) ≤ (↑len : Int) - (1 : Int) - (↑(len - (1 : Nat) - x) : Int) ∧ (↑len : Int) - (1 : Int) - (↑(len - (1 : Nat) - x) : Int) < (9223372036854775808 : Int), True]) (S := (riT zv ((len : Int) - 1 - ((len - 1 - x : Nat) : Int)))) (H := (riH len A z)) (by kernel_rfl) (by kernel_rfl) (by simp only [conj, and_true, true_and]; omega) hr fun ρ1 a1 W1 hr1 => ?_
  have e : ((len : Int) - 1 - ((len - 1 - x : Nat) : Int)) = (x : Int) := by omega
  rw [e] at hr1
  have e1 : ((x : Int) / 8).toNat = x / 8 := by omega
  have e2 : ((8 : Int) * ((x : Int) % 8)).toNat = 8 * (x % 8) := by omega
  have hp : 2 ^ (8 * (x % 8)) ≤ 2 ^ 56 := Nat.pow_le_pow_right (by omega) (by omega)
  have hm : zv * 2 ^ (8 * (x % 8)) ≤ 255 * 2 ^ 56 := Nat.mul_le_mul (by omega) hp
  have hm2 : zv * 2 ^ (8 * (x % 8)) < 18446744073709551616 := by omega
  have hl := lm_lt A (x / 8)
  have ho : orN (lm A (x / 8)) (zv * 2 ^ (8 * (x % 8))) < 18446744073709551616 := Nat.or_lt_two_pow (n := 64) hl hm2
  have h3 : (0 : Int) ≤ ((zv * 2 ^ (8 * (x % 8)) : Nat) : Int) := Int.natCast_nonneg _
  have h4 : (0 : Int) ≤ ((orN (lm A (x / 8)) (zv * 2 ^ (8 * (x % 8))) : Nat) : Int) := Int.natCast_nonneg _
  refine reg_draw_in (ctx_ok tabA_ok 45) mixed (orc := way []) (gs := []) (gh := []) (ops := ops8) (by kernel_rfl) (σ := (kn (riT zv (x : Int)) (riH len A z))) (cs := [True, (0 : Int) ≤ (↑x : Int) ∧ (-9223372036854775808 : Int) ≤ (↑x : Int) / (8 : Int) ∧ (↑x : Int) / (8 : Int) < (9223372036854775808 : Int), (0 : Int) ≤ (↑x : Int) / (8 : Int) ∧ (↑x : Int) / (8 : Int) < (↑(4 : Nat) : Int), x / 8 < (4 : Nat), True, (0 : Int) ≤ (↑zv : Int) ∧ (↑zv : Int) < (18446744073709551616 : Int), True, (0 : Int) ≤ (↑x : Int), (-9223372036854775808 : Int) ≤ (8 : Int) * ((↑x : Int) % (8 : Int)) ∧ (8 : Int) * ((↑x : Int) % (8 : Int)) < (9223372036854775808 : Int), (0 : Int) ≤ (↑zv : Int) ∧ (0 : Int) ≤ (8 : Int) * ((↑x : Int) % (8 : Int)) ∧ (8 : Int) * ((↑x : Int) % (8 : Int)) < (64 : Int) ∧ (0 : Int) ≤ (↑(zv * (2 : Nat) ^ (8 * (x % 8))) : Int) ∧ (↑(zv * (2 : Nat) ^ (8 * (x % 8))) : Int) < (18446744073709551616 : Int), ((0 : Int) ≤ (↑(lm A (x / 8)) : Int) ∧ (↑(lm A (x / 8)) : Int) < (18446744073709551616 : Int)) ∧ (0 : Int) ≤ (↑(zv * (2 : Nat) ^ (8 * (x % 8))) : Int) ∧ (↑(zv * (2 : Nat) ^ (8 * (x % 8))) : Int) < (18446744073709551616 : Int), (0 : Int) ≤ (↑x : Int) / (8 : Int) ∧ (↑x : Int) / (8 : Int) < (↑(4 : Nat) : Int), x / 8 < (4 : Nat) ∧ (0 : Int) ≤ (↑(orN (lm A (x / 8)) (zv * (2 : Nat) ^ (8 * (x % 8)))) : Int) ∧ (↑(orN (lm A (x / 8)) (zv * (2 : Nat) ^ (8 * (x % 8)))) : Int) < (18446744073709551616 : Int)]) (S := ([] : List (Nat × Sv))) (H := (riH len (riV A x zv) z)) (by kernel_rfl) (by kernel_rfl) (by kernel_rfl) (by simp only [conj, and_true, true_and, e1, e2, Int.toNat_natCast]; omega) hr1 fun ρ2 a2 W2 hr2 => ?_
  rw [riV_eq] at hr2
  exact hQ _ _ _ hr2

end M
end Go.Proofs.Ytmjdmhelmgcanaa

/- num.Read, walked. -/
namespace Go.Proofs.Ytmjdmhelmgcanaa
open Go.RowKit Go.Shelf

attribute [local go_sem] Oper.semAt_some

theorem row8_get {z : Nat → Nat} : ∀ {len j : Nat} {u : Value}, (M.rowC (M.row8 z) len)[j]? = some u → j < len ∧ u = .int .u8 (z j)
  | 0, j, u, h => by simp [M.rowC] at h
  | len + 1, j, u, h => by
    rw [M.rowC] at h
    have hl : (M.rowC (M.row8 z) len).length = len := by rw [M.rowC_length (es := 1) fun i hi => rfl, Nat.mul_one]
    by_cases hj : j < len
    · rw [List.getElem?_append_left (by omega)] at h
      have := row8_get h
      exact ⟨by omega, this.2⟩
    · rw [List.getElem?_append_right (by omega), hl] at h
      have hlt := (List.getElem?_eq_some_iff.1 h).1
      simp [M.cellsL, M.row8, M.Av.cells] at hlt
      have e : j - len = 0 := by omega
      obtain rfl : j = len := by omega
      rw [e] at h
      simp [M.cellsL, M.row8, M.Av.cells, M.Av.val] at h
      exact ⟨by omega, h.symm⟩

/-- what is so between two rounds -/
structure RdI (w : World) (z : Nat → Nat) (a : Option Addr) (len cap : Nat) (pre : List (Fin len)) (W : World) : Prop where
  below : Below w.heap.size w W
  sz : w.heap.size + 1 + 1 + 1 + 1 ≤ W.heap.size
  a1 : W.heap[w.heap.size]? = some (.cells #[.slice a len cap] 74 (0, 0))
  a2 : W.heap[w.heap.size + 1]? = some (.cells #[.int .u64 0, .int .u64 0, .int .u64 0, .int .u64 0] 28 (0, 0))
  a4 : ∃ A, A < TOP ∧ (pre.map (fun x => x.val) = List.range pre.length → A = lowB z len pre.length) ∧ W.heap[w.heap.size + 1 + 1]? = some (.cells #[.int .u64 (lm A 0), .int .u64 (lm A 1), .int .u64 (lm A 2), .int .u64 (lm A 3)] 28 (0, 0))

theorem rdI_own (w : World) (z : Nat → Nat) (a : Option Addr) (len cap B : Nat) (hB : w.heap.size ≤ B) : OwnFrom B (RdI w z a len cap) := fun s W W' row hs hg hr => by
  have hr' : ∀ r, row = some r → ∃ o : Obj, W.heap[r]? = some o ∧ o.isCells = false := fun r e => (hr r e).2
  obtain ⟨A, h1, h2, h3⟩ := hs.a4
  exact ⟨ownFrom_below (β := List (Fin len)) (Nat.le_refl _) hB s W W' row hs.below hg hr, Nat.le_trans hs.sz hg.size, block_kept hs.a1 hg hr', block_kept hs.a2 hg hr', A, h1, h2, block_kept h3 hg hr'⟩

set_option maxRecDepth 100000 in
set_option maxHeartbeats 4000000 in
theorem read_in (F : Fence) (n : Nat) (h82 : F.fn 82) (h108 : F.fn 108) (h118 : F.fn 118) (hro : F.round = none) (hn : 5 ≤ n) (b off len cap : Nat) (z : Nat → Nat) (hlen : len ≤ 32) (hlen0 : 0 < len) (hz0 : z 0 ≠ 0) (w : World) (hb : b < w.heap.size)
    (hc : ∀ j, j < len → w.cell? ⟨b, off + j, none⟩ = some (.int .u8 (z j)))
    (hbody : ∀ (l : Nat) (pre : List (Fin len)) (x : Fin len) (W : World) (act : Act), act.tmps.size = 45 → act.defers = [] → act.eval (.tmp 1) = .pointer (some ⟨w.heap.size, 0, none⟩) → act.eval (.tmp 4) = .pointer (some ⟨w.heap.size + 1 + 1, 0, none⟩) → act.eval (.tmp 5) = .int .i64 ((len - 1 - (x : Nat) : Nat) : Int) → act.eval (.tmp 6) = .int .u8 (z (len - 1 - x)) →
      RdI w z (some ⟨b, off, none⟩) len cap pre W → (Code.block 1 (.seq (.region 7 M.ops7 false) (.region 8 M.ops8 true))).wpIn (F.inRound l) (n - 1 - 1) Try.prog (ownPostG (w.heap.size + 1 + 1 + 1 + 1) (KpR (w.heap.size + 1 + 1 + 1) b) (RdI w z (some ⟨b, off, none⟩) len cap) (fun _ _ _ => False) (pre ++ [x]) W) act W) :
    CallsIn F n Try.prog 82 #[.slice (some ⟨b, off, none⟩) len cap] w fun e W' => e = .returned (.tuple #[V (lowB z len len), .int .i64 0]) ∧ Below w.heap.size w W' := by
  have h1 : 1 ≤ n := by omega
  have c0 := hc 0 hlen0
  rw [Nat.add_zero] at c0
  refine callsIn_of_wp_marks Try.func82 rfl h82 ?_ hro
  simp only [Try.ntmps82, List.size_toArray, List.length_cons, List.length_nil, Nat.reduceAdd, Nat.reduceSub, Array.replicate_succ, Array.replicate_zero, List.push_toArray, List.append_toArray, List.nil_append, List.cons_append]
  have g1 : ¬ (32 : Int) < (len : Int) := by omega
  have g2 : (0 : Int) < (len : Int) := by omega
  have g3 : ¬ ((z 0 : Nat) : Int) = 0 := by omega
  gi_wp2_with (gi_at_call 108; refine (backward8_in F (n - 1) h108 hro _ _ _ _).mono ?_; rintro e w' ⟨rfl, rfl⟩)
  obtain ⟨W4, hW4⟩ : ∃ W4, ((((w.alloc (Obj.cells #[Value.slice (some { block := b, off := off }) len cap] 74)).alloc (Obj.cells #[Value.int IntKind.u64 0, Value.int IntKind.u64 0, Value.int IntKind.u64 0, Value.int IntKind.u64 0] 28)).alloc
      (Obj.cells #[Value.int IntKind.u64 0, Value.int IntKind.u64 0, Value.int IntKind.u64 0, Value.int IntKind.u64 0] 28)).alloc (Obj.cells #[Value.slice (some { block := b, off := off }) len cap] 74)) = W4 := ⟨_, rfl⟩
  have hB0 : Below w.heap.size w W4 := by
    rw [← hW4]
    exact ((((Below.refl _ w).alloc (Nat.le_refl _) _).alloc (by simp) _).alloc (by simp <;> omega) _).alloc (by simp <;> omega) _
  have hsz : W4.heap.size = w.heap.size + 1 + 1 + 1 + 1 := by rw [← hW4]; simp
  have hh := heap4 w (Obj.cells #[Value.slice (some { block := b, off := off }) len cap] 74) (Obj.cells #[Value.int IntKind.u64 0, Value.int IntKind.u64 0, Value.int IntKind.u64 0, Value.int IntKind.u64 0] 28) (Obj.cells #[Value.int IntKind.u64 0, Value.int IntKind.u64 0, Value.int IntKind.u64 0, Value.int IntKind.u64 0] 28) (Obj.cells #[Value.slice (some { block := b, off := off }) len cap] 74)
  simp only [hW4] at hh
  obtain ⟨hA, hY, hR, hS⟩ := hh
  rw [hW4]
  have hI0 : RdI w z (some ⟨b, off, none⟩) len cap [] W4 := ⟨hB0, by rw [hsz]; exact Nat.le_refl _, hA, hY, 0, top_pos, fun _ => rfl, hR⟩
  refine wpIn_rangeFunc_ownG hro h1 (gf := 118) (lb := #[.pointer (some ⟨w.heap.size + 1 + 1 + 1, 0, none⟩)]) rfl h118 (enters_of Try.func118 (by kernel_rfl) rfl)
    (back8_stops F (n - 1) h118 hro (by omega) (w.heap.size + 1 + 1 + 1) b off len cap _ (fun _ => rfl) z hlen W4 (fun _ => by omega) (by omega) (cell_of_row W4 _ 0 _ _ _ hS) (fun j hj => (hB0.cell (p := ⟨b, off + j, none⟩) hb).trans (hc j hj)))
    (fun h k => h.trans k) ?hKb (Below.refl _ _) (fun _ => rfl) (RdI w z (some ⟨b, off, none⟩) len cap) (fun _ _ _ => False) (rdI_own w z _ len cap _ (by omega)) (fun c => fun s W W' row hs _ _ => hs) hI0
    (fun k => { tmps := #[Value.slice (some { block := b, off := off }) len cap,
          Value.pointer (some { block := w.heap.size, off := 0 }),
          Value.pointer (some { block := w.heap.size + 1, off := 0 }), Value.int IntKind.i64 0,
          Value.pointer (some { block := w.heap.size + 1 + 1, off := 0 }), .int .i64 ((len - 1 - (k : Nat) : Nat) : Int), .int .u8 (z (len - 1 - k)), undef,
          Value.slice (some { block := b, off := off }) len cap, Value.int IntKind.i64 ↑len, Value.bool false,
          Value.bool false, Value.slice (some { block := b, off := off }) len cap, Value.int IntKind.i64 ↑len,
          Value.bool true, Value.bool true, Value.slice (some { block := b, off := off }) len cap,
          Value.pointer (some { block := b, off := off }), Value.int IntKind.u8 ↑(z 0), Value.bool false,
          Value.bool false, Value.bool false, undef, Value.slice (some { block := b, off := off }) len cap,
          Value.func (Fn.func 118) #[] #[Value.pointer (some { block := w.heap.size + 1 + 1 + 1, off := 0 })], .int .i64 ((len - 1 - (k : Nat) : Nat) : Int), .int .u8 (z (len - 1 - k)), undef, undef, undef, undef, undef, undef, undef, undef, undef, undef, undef, undef, undef, undef, undef,
          undef, undef, undef], defers := [] }) ?assign ?body ?done ?stop
  case hKb =>
    intro W l o o' hl hlo hco hwo
    exact ⟨by simp, World.putObj_heap_other (by omega), World.putObj_heap_other (by omega)⟩
  case assign =>
    intro l x W K hK
    gi_wp2
    exact hK
  case body =>
    intro l pre x W hi _
    rw [hsz]
    exact hbody l pre x W _ rfl rfl rfl rfl rfl rfl hi
  case done =>
    rintro D ys W hD rfl hi hK
    obtain ⟨A, q1, q2, q3⟩ := hi.a4
    have e := q2 (by rw [finL_map len (Nat.le_refl _), finL_length len (Nat.le_refl _)])
    rw [finL_length len (Nat.le_refl _)] at e
    have He := Lib.hid e
    clear e q2
    have z2 := hi.a2
    have hbel := hi.below
    clear hi
    obtain ⟨r0, r1, r2, r3, -⟩ := cells4 q3
    obtain ⟨t0, t1, t2, t3, fT⟩ := cells4 z2
    have f0 := fT 0
    have f1 := fT 1
    have f2 := fT 2
    have f3 := fT 3
    gi_wp2
    have hK' := ((((KeepsOthers.setCell W ⟨w.heap.size + 1, 0, none⟩ (.int .u64 (lm A 0))).trans (KeepsOthers.setCell _ ⟨w.heap.size + 1, 1, none⟩ (.int .u64 (lm A 1)))).trans (KeepsOthers.setCell _ ⟨w.heap.size + 1, 2, none⟩ (.int .u64 (lm A 2)))).trans (KeepsOthers.setCell _ ⟨w.heap.size + 1, 3, none⟩ (.int .u64 (lm A 3)))).same D _ hK rfl
    refine ⟨by simp, .inl ⟨_, _, rfl, run_takeDeferred hK', ?_⟩⟩
    have hbel2 : Below w.heap.size w ((((W.setCell ⟨w.heap.size + 1, 0, none⟩ (.int .u64 (lm A 0))).setCell ⟨w.heap.size + 1, 1, none⟩ (.int .u64 (lm A 1))).setCell ⟨w.heap.size + 1, 2, none⟩ (.int .u64 (lm A 2))).setCell ⟨w.heap.size + 1, 3, none⟩ (.int .u64 (lm A 3))) :=
      (((hbel.setCell (p := ⟨w.heap.size + 1, 0, none⟩) (by simp) _).setCell (p := ⟨w.heap.size + 1, 1, none⟩) (by simp) _).setCell (p := ⟨w.heap.size + 1, 2, none⟩) (by simp) _).setCell (p := ⟨w.heap.size + 1, 3, none⟩) (by simp) _
    have hlast := hbel2.trans (belowK_b (w := w) (Nat.le_refl _) _ D _ (.deferred none) (by omega) hK' rfl rfl)
    refine ⟨.tuple #[V A, .int .i64 0], ?_, by rw [He.out], hlast⟩
    have cc : ∀ j v, ((((W.setCell ⟨w.heap.size + 1, 0, none⟩ (.int .u64 (lm A 0))).setCell ⟨w.heap.size + 1, 1, none⟩ (.int .u64 (lm A 1))).setCell ⟨w.heap.size + 1, 2, none⟩ (.int .u64 (lm A 2))).setCell ⟨w.heap.size + 1, 3, none⟩ (.int .u64 (lm A 3))).cell? ⟨w.heap.size + 1, j, none⟩ = some v →
        (((((W.setCell ⟨w.heap.size + 1, 0, none⟩ (.int .u64 (lm A 0))).setCell ⟨w.heap.size + 1, 1, none⟩ (.int .u64 (lm A 1))).setCell ⟨w.heap.size + 1, 2, none⟩ (.int .u64 (lm A 2))).setCell ⟨w.heap.size + 1, 3, none⟩ (.int .u64 (lm A 3))).putObj D (.deferred none)).cell? ⟨w.heap.size + 1, j, none⟩ = some v :=
      fun j v h => cell_kept h (grownBy_putObj' _ D (.deferred none)) (fun r e => by cases e; exact ⟨_, hK', rfl⟩)
    have d0 := cc 0 (.int .u64 (lm A 0)) (by go_cell)
    have d1 := cc 1 (.int .u64 (lm A 1)) (by go_cell)
    have d2 := cc 2 (.int .u64 (lm A 2)) (by go_cell)
    have d3 := cc 3 (.int .u64 (lm A 3)) (by go_cell)
    simp [results, Try.results82, go_sem, d0, d1, d2, d3, V, V4]
  case stop =>
    rintro D c pre W hD _ hf hK
    exact hf.elim

set_option maxRecDepth 100000 in
set_option maxHeartbeats 4000000 in
theorem read0_in (F : Fence) (n : Nat) (h82 : F.fn 82) (h108 : F.fn 108) (h118 : F.fn 118) (hro : F.round = none) (hn : 5 ≤ n) (a : Option Addr) (cap : Nat) (z : Nat → Nat) (w : World) :
    CallsIn F n Try.prog 82 #[.slice a 0 cap] w fun e W' => e = .returned (.tuple #[V 0, .int .i64 0]) ∧ Below w.heap.size w W' := by
  have h1 : 1 ≤ n := by omega
  refine callsIn_of_wp_marks Try.func82 rfl h82 ?_ hro
  simp only [Try.ntmps82, List.size_toArray, List.length_cons, List.length_nil, Nat.reduceAdd, Nat.reduceSub, Array.replicate_succ, Array.replicate_zero, List.push_toArray, List.append_toArray, List.nil_append, List.cons_append]
  gi_wp2_with (gi_at_call 108; refine (backward8_in F (n - 1) h108 hro _ _ _ _).mono ?_; rintro e w' ⟨rfl, rfl⟩)
  obtain ⟨W4, hW4⟩ : ∃ W4, ((((w.alloc (Obj.cells #[Value.slice a 0 cap] 74)).alloc (Obj.cells #[Value.int IntKind.u64 0, Value.int IntKind.u64 0, Value.int IntKind.u64 0, Value.int IntKind.u64 0] 28)).alloc
      (Obj.cells #[Value.int IntKind.u64 0, Value.int IntKind.u64 0, Value.int IntKind.u64 0, Value.int IntKind.u64 0] 28)).alloc (Obj.cells #[Value.slice a 0 cap] 74)) = W4 := ⟨_, rfl⟩
  have hB0 : Below w.heap.size w W4 := by
    rw [← hW4]
    exact ((((Below.refl _ w).alloc (Nat.le_refl _) _).alloc (by simp) _).alloc (by simp <;> omega) _).alloc (by simp <;> omega) _
  have hsz : W4.heap.size = w.heap.size + 1 + 1 + 1 + 1 := by rw [← hW4]; simp
  have hh := heap4 w (Obj.cells #[Value.slice a 0 cap] 74) (Obj.cells #[Value.int IntKind.u64 0, Value.int IntKind.u64 0, Value.int IntKind.u64 0, Value.int IntKind.u64 0] 28) (Obj.cells #[Value.int IntKind.u64 0, Value.int IntKind.u64 0, Value.int IntKind.u64 0, Value.int IntKind.u64 0] 28) (Obj.cells #[Value.slice a 0 cap] 74)
  simp only [hW4] at hh
  obtain ⟨hA, hY, hR, hS⟩ := hh
  rw [hW4]
  have hI0 : RdI w z a 0 cap [] W4 := ⟨hB0, by rw [hsz]; exact Nat.le_refl _, hA, hY, 0, top_pos, fun _ => rfl, hR⟩
  refine wpIn_rangeFunc_ownG hro h1 (gf := 118) (lb := #[.pointer (some ⟨w.heap.size + 1 + 1 + 1, 0, none⟩)]) rfl h118 (enters_of Try.func118 (by kernel_rfl) rfl)
    (back8_stops F (n - 1) h118 hro (by omega) (w.heap.size + 1 + 1 + 1) (w.heap.size) 0 0 cap a (fun h => by omega) z (by omega) W4 (fun h => by omega) (by omega) (cell_of_row W4 _ 0 _ _ _ hS) (fun j hj => by omega))
    (fun h k => h.trans k) ?hKb (Below.refl _ _) (fun _ => rfl) (RdI w z a 0 cap) (fun _ _ _ => False) (rdI_own w z a 0 cap _ (by omega)) (fun c => fun s W W' row hs _ _ => hs) hI0
    (fun k => { tmps := #[Value.slice a 0 cap,
          Value.pointer (some { block := w.heap.size, off := 0 }),
          Value.pointer (some { block := w.heap.size + 1, off := 0 }), Value.int IntKind.i64 0,
          Value.pointer (some { block := w.heap.size + 1 + 1, off := 0 }), .int .i64 ((0 - 1 - (k : Nat) : Nat) : Int), .int .u8 (z (0 - 1 - k)), undef,
          Value.slice a 0 cap, Value.int IntKind.i64 0, Value.bool false,
          Value.bool false, Value.slice a 0 cap, Value.int IntKind.i64 0,
          Value.bool false, Value.bool false, undef,
          undef, undef, undef,
          Value.bool false, Value.bool false, undef, Value.slice a 0 cap,
          Value.func (Fn.func 118) #[] #[Value.pointer (some { block := w.heap.size + 1 + 1 + 1, off := 0 })], .int .i64 ((0 - 1 - (k : Nat) : Nat) : Int), .int .u8 (z (0 - 1 - k)), undef, undef, undef, undef, undef, undef, undef, undef, undef, undef, undef, undef, undef, undef, undef,
          undef, undef, undef], defers := [] }) ?assign ?body ?done ?stop
  case hKb =>
    intro W l o o' hl hlo hco hwo
    exact ⟨by simp, World.putObj_heap_other (by omega), World.putObj_heap_other (by omega)⟩
  case assign =>
    intro l x W K hK
    exact x.elim0
  case body =>
    intro l pre x W hi _
    exact x.elim0
  case done =>
    rintro D ys W hD rfl hi hK
    obtain ⟨A, q1, q2, q3⟩ := hi.a4
    have e : A = 0 := q2 rfl
    have He := Lib.hid e
    clear e q2
    have z2 := hi.a2
    have hbel := hi.below
    clear hi
    obtain ⟨r0, r1, r2, r3, -⟩ := cells4 q3
    obtain ⟨t0, t1, t2, t3, fT⟩ := cells4 z2
    have f0 := fT 0
    have f1 := fT 1
    have f2 := fT 2
    have f3 := fT 3
    gi_wp2
    have hK' := ((((KeepsOthers.setCell W ⟨w.heap.size + 1, 0, none⟩ (.int .u64 (lm A 0))).trans (KeepsOthers.setCell _ ⟨w.heap.size + 1, 1, none⟩ (.int .u64 (lm A 1)))).trans (KeepsOthers.setCell _ ⟨w.heap.size + 1, 2, none⟩ (.int .u64 (lm A 2)))).trans (KeepsOthers.setCell _ ⟨w.heap.size + 1, 3, none⟩ (.int .u64 (lm A 3)))).same D _ hK rfl
    refine ⟨by simp, .inl ⟨_, _, rfl, run_takeDeferred hK', ?_⟩⟩
    have hbel2 : Below w.heap.size w ((((W.setCell ⟨w.heap.size + 1, 0, none⟩ (.int .u64 (lm A 0))).setCell ⟨w.heap.size + 1, 1, none⟩ (.int .u64 (lm A 1))).setCell ⟨w.heap.size + 1, 2, none⟩ (.int .u64 (lm A 2))).setCell ⟨w.heap.size + 1, 3, none⟩ (.int .u64 (lm A 3))) :=
      (((hbel.setCell (p := ⟨w.heap.size + 1, 0, none⟩) (by simp) _).setCell (p := ⟨w.heap.size + 1, 1, none⟩) (by simp) _).setCell (p := ⟨w.heap.size + 1, 2, none⟩) (by simp) _).setCell (p := ⟨w.heap.size + 1, 3, none⟩) (by simp) _
    have hlast := hbel2.trans (belowK_b (w := w) (Nat.le_refl _) _ D _ (.deferred none) (by omega) hK' rfl rfl)
    refine ⟨.tuple #[V A, .int .i64 0], ?_, by rw [He.out], hlast⟩
    have cc : ∀ j v, ((((W.setCell ⟨w.heap.size + 1, 0, none⟩ (.int .u64 (lm A 0))).setCell ⟨w.heap.size + 1, 1, none⟩ (.int .u64 (lm A 1))).setCell ⟨w.heap.size + 1, 2, none⟩ (.int .u64 (lm A 2))).setCell ⟨w.heap.size + 1, 3, none⟩ (.int .u64 (lm A 3))).cell? ⟨w.heap.size + 1, j, none⟩ = some v →
        (((((W.setCell ⟨w.heap.size + 1, 0, none⟩ (.int .u64 (lm A 0))).setCell ⟨w.heap.size + 1, 1, none⟩ (.int .u64 (lm A 1))).setCell ⟨w.heap.size + 1, 2, none⟩ (.int .u64 (lm A 2))).setCell ⟨w.heap.size + 1, 3, none⟩ (.int .u64 (lm A 3))).putObj D (.deferred none)).cell? ⟨w.heap.size + 1, j, none⟩ = some v :=
      fun j v h => cell_kept h (grownBy_putObj' _ D (.deferred none)) (fun r e => by cases e; exact ⟨_, hK', rfl⟩)
    have d0 := cc 0 (.int .u64 (lm A 0)) (by go_cell)
    have d1 := cc 1 (.int .u64 (lm A 1)) (by go_cell)
    have d2 := cc 2 (.int .u64 (lm A 2)) (by go_cell)
    have d3 := cc 3 (.int .u64 (lm A 3)) (by go_cell)
    simp [results, Try.results82, go_sem, d0, d1, d2, d3, V, V4]
  case stop =>
    rintro D c pre W hD _ hf hK
    exact hf.elim

end Go.Proofs.Ytmjdmhelmgcanaa

/- num.Read as a contract; the laws NumBytes, NumReads, as calls. -/
namespace Go.Proofs.Ytmjdmhelmgcanaa
open Go.RowKit Go.Shelf
set_option linter.unusedVariables false
set_option linter.unusedSimpArgs false

theorem lowB_lt {z : Nat → Nat} {len : Nat} (hz : ∀ j, j < len → z j < 256) : ∀ k, k ≤ len → lowB z len k < 256 ^ k
  | 0, _ => by simp [lowB]
  | k + 1, h => by
    have h1 := lowB_lt hz k (by omega)
    have h2 := hz (len - 1 - k) (by omega)
    have h3 : z (len - 1 - k) * 256 ^ k ≤ 255 * 256 ^ k := Nat.mul_le_mul_right _ (by omega)
    rw [lowB, Nat.pow_succ]; omega

/-- the lowest bytes, and those above -/
theorem lowB_rn (z : Nat → Nat) (len : Nat) : ∀ k, k ≤ len → M.rn z (len - k) * 256 ^ k + lowB z len k = M.rn z len
  | 0, _ => by simp [lowB]
  | k + 1, h => by
    have ih := lowB_rn z len k (by omega)
    have e : len - k = (len - (k + 1)) + 1 := by omega
    rw [e, M.rn, Nat.add_mul] at ih
    have e2 : len - 1 - k = len - (k + 1) := by omega
    rw [lowB, Nat.pow_succ, e2]
    rw [Nat.mul_assoc, Nat.mul_comm 256] at ih
    omega

/-- a byte more, in its place -/
theorem rdW_step {A k zv : Nat} (hk : k < 32) (hA : A < 256 ^ k) (hzv : zv < 256) : M.rdW A k zv = A + zv * 256 ^ k := by
  have hp : (256 : Nat) ^ k = 18446744073709551616 ^ (k / 8) * 2 ^ (8 * (k % 8)) := by
    rw [word_pow, show (256 : Nat) = 2 ^ 8 from rfl, ← Nat.pow_mul]
    congr 1; omega
  have hl : lm A (k / 8) < 2 ^ (8 * (k % 8)) := by
    unfold lm
    refine Nat.lt_of_le_of_lt (Nat.mod_le _ _) ?_
    rw [Nat.div_lt_iff_lt_mul (Nat.pow_pos (by omega)), Nat.mul_comm, ← hp]
    exact hA
  have ho : M.orN (lm A (k / 8)) (zv * 2 ^ (8 * (k % 8))) = lm A (k / 8) + zv * 2 ^ (8 * (k % 8)) := by
    unfold M.orN
    have := Nat.shiftLeft_add_eq_or_of_lt hl zv
    rw [Nat.shiftLeft_eq] at this
    rw [Nat.or_comm, ← this, Nat.add_comm]
  have hx : A < M.pow64 4 := by
    have e : M.pow64 4 = 256 ^ 32 := rfl
    rw [e]
    exact Nat.lt_of_lt_of_le hA (Nat.pow_le_pow_right (by omega) (by omega))
  have h6 := M.stw_add (v := lm A (k / 8) + zv * 2 ^ (8 * (k % 8))) hx (by omega : k / 8 < 4)
  unfold M.rdW
  rw [ho]
  rw [Nat.add_mul, Nat.mul_assoc zv, Nat.mul_comm (2 ^ (8 * (k % 8))), ← hp] at h6
  omega

set_option maxRecDepth 100000 in
theorem rd_hbody {F : Fence} {n : Nat} {b off len cap : Nat} {z : Nat → Nat} (hlen : len ≤ 32) (hz : ∀ j, j < len → z j < 256) {w : World} (hb : b < w.heap.size) (hcap : len ≤ cap) (hmax : cap ≤ maxLen)
    (hc : ∀ j, j < len → w.cell? ⟨b, off + j, none⟩ = some (.int .u8 (z j))) (l : Nat) (pre : List (Fin len)) (x : Fin len) (W : World) (act : Act) (t0 : act.tmps.size = 45) (t1 : act.defers = []) (t2 : act.eval (.tmp 1) = .pointer (some ⟨w.heap.size, 0, none⟩))
    (t3 : act.eval (.tmp 4) = .pointer (some ⟨w.heap.size + 1 + 1, 0, none⟩)) (t4 : act.eval (.tmp 5) = .int .i64 ((len - 1 - (x : Nat) : Nat) : Int)) (t5 : act.eval (.tmp 6) = .int .u8 (z (len - 1 - x))) (hi : RdI w z (some ⟨b, off, none⟩) len cap pre W) :
    (Code.block 1 (.seq (.region 7 M.ops7 false) (.region 8 M.ops8 true))).wpIn (F.inRound l) (n - 1 - 1) Try.prog (ownPostG (w.heap.size + 1 + 1 + 1 + 1) (KpR (w.heap.size + 1 + 1 + 1) b) (RdI w z (some ⟨b, off, none⟩) len cap) (fun _ _ _ => False) (pre ++ [x]) W) act W := by
  obtain ⟨s, hs⟩ : ∃ s, s = w.heap.size := ⟨_, rfl⟩
  rw [← hs] at t2 t3 hb ⊢
  obtain ⟨A, a1, a2, a3⟩ := hi.a4
  have hsz := hi.sz
  have hw1 := hi.a1
  have hw2 := hi.a2
  have hbel := hi.below
  rw [← hs] at a3 hsz hw1 hw2 hbel
  have hzx : z (len - 1 - x) < 256 := hz _ (by have := x.isLt; omega)
  have hF : ∀ k, W.heap.size ≤ k → k = s ∨ k = s + 1 + 1 ∨ W.heap.size ≤ k := fun _ h => .inr (.inr h)
  obtain ⟨ρW, hρ⟩ : ∃ ρW : M.Env, ρW = ⟨fun i => if i = 1000 then b else if i = 1001 then s else s + 1 + 1, fun i => if i = 1000 then off else 0, fun i => if i = 1000 then cap else 0⟩ := ⟨_, rfl⟩
  have b0 : ρW.b 1000 = b := by rw [hρ]; rfl
  have b1 : ρW.b 1001 = s := by rw [hρ]; rfl
  have b2 : ρW.b 1002 = s + 1 + 1 := by rw [hρ]; rfl
  have o0 : ρW.o 1000 = off := by rw [hρ]; rfl
  have c0 : ρW.c 1000 = cap := by rw [hρ]; rfl
  have hv1000 : (M.Av.sl 1000 1 0 len).val ρW = .slice (some ⟨b, off, none⟩) len cap := by
    simp only [M.Av.val, b0, o0, c0, Nat.zero_mul, Nat.add_zero, Nat.sub_zero]
  have hrep : M.Rep 45 ⟨W, fun k => k = s ∨ k = s + 1 + 1 ∨ W.heap.size ≤ k, ρW, hF⟩ ρW (M.kn (M.riS len x (z (len - 1 - x))) (M.riH len A z)) act W := by
    refine M.rep_start (w0 := ⟨W, fun k => k = s ∨ k = s + 1 + 1 ∨ W.heap.size ≤ k, ρW, hF⟩) t0 t1 (fun i hi' => ?_) (fun id k hk => ?_) (fun id k hk => ?_) (fun i => ?_) (fun i j ki kj hi' hj' oi oj hij => ?_)
    · rcases M.lookS_mem (S := M.riS len x (z (len - 1 - x))) (i := i) with h | h
      · exact .inl h
      · right
        simp only [M.riS, List.mem_cons, List.not_mem_nil, or_false, Prod.mk.injEq] at h
        rcases h with ⟨rfl, h⟩ | ⟨rfl, h⟩ | ⟨rfl, h⟩ | ⟨rfl, h⟩
        · rw [t2]; show _ = Value.pointer (some ⟨ρW.b 1001, 0, none⟩); rw [b1]
        · rw [t3]; show _ = Value.pointer (some ⟨ρW.b 1002, 0, none⟩); rw [b2]
        · exact t4
        · exact t5
    · have := M.lookH_mem hk
      simp only [M.riH, List.mem_cons, List.not_mem_nil, or_false, Prod.mk.injEq] at this
      rcases this with ⟨rfl, rfl⟩ | ⟨rfl, rfl⟩ | ⟨rfl, rfl⟩
      · refine ⟨M.row8_OK _ _, by show len ≤ ρW.c 1000; rw [c0]; exact hcap, by show ρW.c 1000 ≤ maxLen; rw [c0]; exact hmax, ?_, by show ρW.b 1000 < W.heap.size; rw [b0]; omega, fun j u hu => ?_⟩
        · show ¬ (ρW.b 1000 = s ∨ ρW.b 1000 = s + 1 + 1 ∨ W.heap.size ≤ ρW.b 1000)
          rw [b0]; omega
        · obtain ⟨hj, rfl⟩ := row8_get hu
          show W.cell? ⟨ρW.b 1000, ρW.o 1000 + j, none⟩ = _
          rw [b0, o0, hbel.cell (p := ⟨b, off + j, none⟩) hb]
          exact hc j hj
      · refine ⟨.inl b1, ?_⟩
        show W.heap[ρW.b 1001]? = some (.cells (M.cellsL ρW [.sl 1000 1 0 len]).toArray 74 (0, 0))
        rw [b1, hw1]
        simp [M.cellsL, M.Av.cells, hv1000]
      · refine ⟨.inr (.inl b2), ?_⟩
        show W.heap[ρW.b 1002]? = some (.cells (M.cellsL ρW [.big 4 A]).toArray 28 (0, 0))
        rw [b2, a3]
        simp [M.cellsL, M.Av.cells, M.words4]
    · have := M.lookH_mem hk
      simp only [M.riH, List.mem_cons, List.not_mem_nil, or_false, Prod.mk.injEq] at this
      rcases this with ⟨rfl, rfl⟩ | ⟨rfl, rfl⟩ | ⟨rfl, rfl⟩
      · trivial
      · intro a ha
        simp only [List.mem_singleton] at ha
        subst ha
        exact ⟨rfl, rfl⟩
      · intro a ha
        simp only [List.mem_singleton] at ha
        subst ha
        refine M.AvOK.of_plain ?_
        show A < M.pow64 4
        rw [M.pow64_4]; exact a1
    · rcases M.lookS_mem (S := M.riS len x (z (len - 1 - x))) (i := i) with h | h
      · rw [h]; trivial
      · simp only [M.riS, List.mem_cons, List.not_mem_nil, or_false, Prod.mk.injEq] at h
        rcases h with ⟨rfl, h⟩ | ⟨rfl, h⟩ | ⟨rfl, h⟩ | ⟨rfl, h⟩
        · exact M.one1 ⟨rfl, rfl⟩
        · exact M.one1 ⟨rfl, rfl⟩
        · exact M.one1 (M.AvOK.of_plain trivial)
        · exact M.one1 (M.AvOK.of_plain trivial)
    · have m1 := M.lookH_mem hi'
      have m2 := M.lookH_mem hj'
      simp only [M.riH, List.mem_cons, List.not_mem_nil, or_false, Prod.mk.injEq] at m1 m2
      have hij' : ρW.b i = ρW.b j := hij
      rcases m1 with ⟨rfl, rfl⟩ | ⟨rfl, rfl⟩ | ⟨rfl, rfl⟩
      · cases oi
      · rcases m2 with ⟨rfl, rfl⟩ | ⟨rfl, rfl⟩ | ⟨rfl, rfl⟩
        · cases oj
        · rfl
        · rw [b1, b2] at hij'; omega
      · rcases m2 with ⟨rfl, rfl⟩ | ⟨rfl, rfl⟩ | ⟨rfl, rfl⟩
        · cases oj
        · rw [b1, b2] at hij'; omega
        · rfl
  refine M.rd_body x.isLt hlen hzx hrep fun ρ' a' W' hr' => ?_
  have hk := hr'.below
  have hsame : ∀ k, k < W.heap.size → k ≠ s → k ≠ s + 1 + 1 → W'.heap[k]? = W.heap[k]? := fun k h1 h2 h3 => hk.block k h1 fun h => by
    rcases h with h | h | h
    · exact h2 h
    · exact h3 h
    · exact absurd h (Nat.not_le.2 h1)
  have n0 := hr'.names 1000 (Nat.le_refl _)
  have n1 := (hr'.names 1001 (by omega)).2.1
  have n2 := (hr'.names 1002 (by omega)).2.1
  have k1 := (hr'.blocks 1001 _ rfl).2
  have k2 := (hr'.blocks 1002 _ rfl).2
  have n1' : ρ'.b 1001 = s := n1.trans b1
  have n2' : ρ'.b 1002 = s + 1 + 1 := n2.trans b2
  have hv' : (M.Av.sl 1000 1 0 len).val ρ' = .slice (some ⟨b, off, none⟩) len cap := by
    have e1 : ρ'.b 1000 = b := n0.2.1.trans b0
    have e2 : ρ'.o 1000 = off := n0.2.2.1.trans o0
    have e3 : ρ'.c 1000 = cap := n0.2.2.2.trans c0
    simp only [M.Av.val, e1, e2, e3, Nat.zero_mul, Nat.add_zero, Nat.sub_zero]
  rw [n1'] at k1
  rw [n2'] at k2
  refine ⟨⟨hk.size, fun k o h1 h2 _ => ?_⟩, ⟨hk.size, hsame _ (by omega) (by omega) (by omega), hsame _ (by omega) (by omega) (by omega)⟩, ?_⟩
  · have hlt : k < W.heap.size := (Array.getElem?_eq_some_iff.1 h2).1
    rw [hsame k hlt (by omega) (by omega), h2]
  · refine ⟨?_, by rw [← hs]; exact Nat.le_trans hsz hk.size, ?_, ?_, ?_⟩
    · rw [← hs]
      exact hbel.trans ⟨hk.os, hk.tape, hk.output, hk.size, fun k hks => hsame k (by omega) (by omega) (by omega)⟩
    · rw [← hs, k1]
      simp [M.cellsL, M.Av.cells, hv']
    · rw [← hs, hsame _ (by omega) (by omega) (by omega)]; exact hw2
    · refine ⟨M.rdW A x (z (len - 1 - x)), ?_, fun he => ?_, ?_⟩
      · rw [← M.pow64_4]
        refine M.stw_lt ?_
        have hp : 2 ^ (8 * ((x : Nat) % 8)) ≤ 2 ^ 56 := Nat.pow_le_pow_right (by omega) (by omega)
        have hm : z (len - 1 - x) * 2 ^ (8 * ((x : Nat) % 8)) ≤ 255 * 2 ^ 56 := Nat.mul_le_mul (by omega) hp
        exact Nat.or_lt_two_pow (n := 64) (lm_lt A _) (by omega)
      · rw [List.map_append, List.length_append, List.length_singleton, List.range_succ] at he
        obtain ⟨e1, e2⟩ := List.append_inj' he rfl
        have e3 : (x : Nat) = pre.length := by simpa using e2
        have e4 := a2 e1
        rw [List.length_append, List.length_singleton, ← e3, lowB]
        rw [← e3] at e4
        have hxl := x.isLt
        rw [rdW_step (by omega) (by rw [e4]; exact lowB_lt hz _ (by omega)) hzx, e4]
      · rw [← hs, k2]
        simp [M.cellsL, M.Av.cells, M.words4]

/-- num.Read of good bytes -/
theorem read_good_calls {b off len cap : Nat} {z : Nat → Nat} (hlen : len ≤ 32) (h0 : 0 < len → z 0 ≠ 0) (hz : ∀ j, j < len → z j < 256) {w : World} (hb : b < w.heap.size) (hcap : len ≤ cap) (hmax : cap ≤ maxLen)
    (hc : ∀ j, j < len → w.cell? ⟨b, off + j, none⟩ = some (.int .u8 (z j))) :
    Calls Try.prog 82 #[.slice (some ⟨b, off, none⟩) len cap] w fun e W' => e = .returned (.tuple #[V (M.rn z len), .int .i64 0]) ∧ Below w.heap.size w W' := by
  by_cases hl0 : 0 < len
  · have e : lowB z len len = M.rn z len := by
      have := lowB_rn z len len (Nat.le_refl _)
      rw [Nat.sub_self] at this
      rw [← this]; simp [M.rn]
    rw [← e]
    exact (callsIn_wide (n := 9)).1 (read_in _ 9 trivial trivial trivial rfl (by omega) b off len cap z hlen hl0 (h0 hl0) w hb hc (fun l pre x W act => rd_hbody hlen hz hb hcap hmax hc l pre x W act))
  · obtain rfl : len = 0 := by omega
    exact (callsIn_wide (n := 9)).1 (read0_in _ 9 trivial trivial trivial rfl (by omega) (some ⟨b, off, none⟩) cap z w)
theorem read_nil_calls (w : World) : Calls Try.prog 82 #[.slice none 0 0] w fun e W' => e = .returned (.tuple #[V 0, .int .i64 0]) ∧ Below w.heap.size w W' :=
  (callsIn_wide (n := 9)).1 (read0_in _ 9 trivial trivial trivial rfl (by omega) none 0 (fun _ => 0) w)

end Go.Proofs.Ytmjdmhelmgcanaa

/- num.Read, r01.Read, r01.Same as contracts; the laws NumBytes, NumReads, as calls. -/
namespace Go.Proofs.Ytmjdmhelmgcanaa
namespace M
open Go.RowKit
set_option linter.unusedSimpArgs false
set_option linter.unusedVariables false

/-- contracts put together -/
theorem EOK.join {f cls : Nat} {c1 c2 c' : Con} (h1 : EOK ⟨f, cls, c1⟩) (h2 : EOK ⟨f, cls, c2⟩)
    (hcc : ∀ args outs', c' args = some outs' → ∀ (i : Nat) oc', outs'[i]? = some oc' → oc'.c → (∃ (outs : List Outc) (j : Nat), c1 args = some outs ∧ outs[j]? = some oc') ∨ (∃ (outs : List Outc) (j : Nat), c2 args = some outs ∧ outs[j]? = some oc')) : EOK ⟨f, cls, c'⟩ := by
  constructor
  · intro args outs' ho hargs i oc' hi hc d
    rcases hcc args outs' ho i oc' hi hc with ⟨outs, j, h3, h4⟩ | ⟨outs, j, h3, h4⟩
    · exact h1.wf args outs h3 hargs j oc' h4 hc d
    · exact h2.wf args outs h3 hargs j oc' h4 hc d
  · intro args outs' ho i oc' hi hc ρ w B d hB hargs hd hinj
    rcases hcc args outs' ho i oc' hi hc with ⟨outs, j, h3, h4⟩ | ⟨outs, j, h3, h4⟩
    · exact h1.run args outs h3 j oc' h4 hc ρ w B d hB hargs hd hinj
    · exact h2.run args outs h3 j oc' h4 hc ρ w B d hB hargs hd hinj

def nreadK : DCon
  | [[(.sl _ 1 0 n, some (.row _ 5 1 n1 f))]] =>
    some [(n1 = n ∧ byt f n ∧ n ≤ 32 ∧ (0 < n → rb f 0 ≠ 0), .tup [N (rn (rb f) n), E 0]), (n1 = n ∧ byt f n ∧ (32 < n ∨ (0 < n ∧ rb f 0 = 0)), .tup [N 0, E 4])]
  | [[(.nil, _)]] => some [(True, .tup [N 0, E 0])]
  | _ => none
def read0K : DCon
  | [[(.sl _ 1 0 n, some (.row _ 5 1 n1 f))]] => some [(n1 = n ∧ n = 0, .tup [N 0, B true])]
  | _ => none
def readK2 : DCon
  | [[(.sl _ 1 0 n, some (.row _ 5 1 n1 f))]] =>
    some [(n1 = n ∧ byt f n ∧ n ≤ 32 ∧ 0 < n ∧ rb f 0 ≠ 0, .tup [N (rn (rb f) n), B true]), (n1 = n ∧ byt f n ∧ (32 < n ∨ (0 < n ∧ rb f 0 = 0)), .tup [N 0, B false]), (n1 = n ∧ n = 0, .tup [N 0, B true])]
  | [[(.nil, _)]] => some [(True, .tup [N 0, B true])]
  | _ => none
def same0K : DCon
  | [[(.nil, _)], [(.sl _ 1 0 m, some (.row _ 5 1 m1 g))]] => some [(m1 = m ∧ m = 0, .one (B true))]
  | _ => none
def sameK2 : DCon
  | [[(.sl _ 1 0 n, some (.row _ 5 1 n1 f))], [(.sl _ 1 0 m, some (.row _ 5 1 m1 g))]] =>
    some [(n1 = n ∧ m1 = n ∧ m = n ∧ n < 64 ∧ ∃ F, rowC f n = rowC (row8 F) n ∧ rowC g n = rowC (row8 F) n, .one (B true))]
  | [[(.nil, _)], [(.nil, _)]] => some [(True, .one (B true))]
  | [[(.nil, _)], [(.sl _ 1 0 m, some (.row _ 5 1 m1 g))]] => some [(m1 = m ∧ m = 0, .one (B true))]
  | _ => none
def tR : List Entry := ⟨82, 1, dcon nreadK⟩ :: ⟨85, 1, dcon readK2⟩ :: ⟨83, 1, dcon sameK2⟩ :: ⟨84, 0, bytesC⟩ :: tN1
def nrA (n : Nat) : List (Nat × Sv) := argS 0 [.one [.sl 1000 1 0 n]]
def nrH (n : Nat) (F : Nat → Nat) : List (Nat × Bk) := [(1000, .row false 5 1 n (row8 F))]
def rbr (F : Nat → Nat) : Nat → Nat := rb (row8 F)

theorem rb_row8 (F : Nat → Nat) : rb (row8 F) = F := by funext i; rfl
theorem byt_row8 {F : Nat → Nat} {n : Nat} (h : ∀ i, i < n → F i < 256) : byt (row8 F) n := by
  unfold byt
  rw [rb_row8]
  exact ⟨rfl, h⟩

theorem nread_bad {w0 : Base} {F : Nat → Nat} {n : Nat} (h : 32 < n ∨ (0 < n ∧ F 0 = 0)) : Goes Try.prog Try.f82.ntmps w0 [.code (bodyOf Try.f82)] .norm (kn (nrA n) (nrH n F))
    (Fin (ctx tabU 45) Try.f82.results.toList fun v _ => v = .tup [N 0, E 4]) := by
  by_cases h1 : 32 < n
  · exact goes_ret (ctx_ok tabU_ok 45) mixed rfl (orc := way []) (stops := []) (f := 3000) (k := [.code (bodyOf Try.f82)]) (o := .norm) (σ := (kn (nrA n) (nrH n F))) (cs := [True, True, True, True, True, (32 : Int) < (↑n : Int), True, True, True, True, True, True, True, True, True, True, True, True, True, True]) (o' := .ret) (rs := Try.f82.results.toList) (v := (.tup [N 0, E 4])) (H := ([] : List (Nat × Bk))) (by kernel_rfl) (.inr rfl) (by simp only [conj, and_true, true_and]; omega) fun _ _ => rfl
  · have h2 : 0 < n ∧ F 0 = 0 := by omega
    exact goes_ret (ctx_ok tabU_ok 45) mixed rfl (orc := way [(10, 1)]) (stops := []) (f := 3000) (k := [.code (bodyOf Try.f82)]) (o := .norm) (σ := (kn (nrA n) (nrH n F))) (cs := [True, True, True, True, True, ¬(32 : Int) < (↑n : Int), True, True, True, (0 : Int) < (↑n : Int), True, True, (0 : Int) ≤ (0 : Int) ∧ (0 : Int) < (↑n : Int), addO (0 : Nat) (0) < n, (↑(F (addO (0 : Nat) (Int.toNat (Prod.snd (IntKind.i64, (0 : Int)))))) : Int) = (0 : Int), True, True, True, True, True]) (o' := .ret) (rs := Try.f82.results.toList) (v := (.tup [N 0, E 4])) (H := ([] : List (Nat × Bk))) (by kernel_rfl) (.inr rfl) (by simp only [conj, and_true, true_and, addO_eq, Nat.zero_add, Int.toNat_zero, h2.2]; omega) fun _ _ => rfl

theorem nread_e : EOK ⟨82, 1, dcon nreadK⟩ := by
  refine dcon_ok (fun a w => Try.call82 a w) fun args l hl p hp hc => ?_
  unfold nreadK at hl
  split at hl
  · rename_i a n o n1 f
    cases hl
    simp only [List.mem_cons, List.not_mem_nil, or_false] at hp
    rcases hp with rfl | rfl
    · obtain ⟨rfl, h2, h3, h4⟩ := hc
      refine ⟨plain2 (rn_top h3 h2.2) (E_plain _), fun ρ w B' hargs => ?_⟩
      obtain ⟨ida, ha1, ha2, _⟩ := (hargs _ List.mem_cons_self _ List.mem_cons_self).2 _ rfl
      cases ha1
      obtain ⟨q1, q2, q3, q4, q5⟩ := rd_only ha2
      have hget : ∀ j, j < n1 → w.cell? ⟨ρ.b a, ρ.o a + j, none⟩ = some (.int .u8 (rb f j)) := by
        intro j hj
        refine q5 j _ ?_
        rw [h2.1]
        have hlen : (rowC (row8 (rb f)) n1).length = n1 := by rw [rowC_length (es := 1) fun i hi => rfl, Nat.mul_one]
        have hj' : j < (rowC (row8 (rb f)) n1).length := by rw [hlen]; exact hj
        have h5 : (rowC (row8 (rb f)) n1)[j]? = some (rowC (row8 (rb f)) n1)[j] := List.getElem?_eq_getElem hj'
        rw [h5, (row8_get h5).2]
      have := read_good_calls (b := ρ.b a) (off := ρ.o a) (len := n1) (cap := ρ.c a) (z := rb f) h3 h4 h2.2 q4 q2 q3 hget
      have ev : ([[(Av.sl a 1 0 n1, some (Bk.row o 5 1 n1 f))]].map (argV ρ)).toArray = #[.slice (some ⟨ρ.b a, ρ.o a, none⟩) n1 (ρ.c a)] := by
        simp [argV, denL, Av.val]
      rw [ev]
      refine this.mono fun e w' h => ⟨h.2, ?_⟩
      rw [h.1]
      simp [Sv.den, denL, Av.val]
      exact (denL_num ρ0 _).symm
    · obtain ⟨rfl, h2, h3⟩ := hc
      have hpl : (Sv.tup [N 0, E 4]).all Av.plain := plain2 top_pos (E_plain _)
      refine ⟨hpl, fun ρ w B' hargs => ?_⟩
      obtain ⟨ida, ha1, ha2, _⟩ := (hargs _ List.mem_cons_self _ List.mem_cons_self).2 _ rfl
      cases ha1
      let ρ2 : Env := ⟨fun _ => ρ.b a, fun _ => ρ.o a, fun _ => ρ.c a⟩
      have hin : InOK (base w ρ2) [.one [.sl 1000 1 0 n1]] (nrH n1 (rb f)) := by
        refine in_reads ?_ ?_
        · intro q hq
          simp only [nrH, List.mem_cons, List.not_mem_nil, or_false] at hq
          subst hq
          exact ⟨rfl, trivial, BSim.ok (.inr ⟨_, _, _, _, _, _, rfl, rfl, row8_OK _ _, h2.1⟩) (read_bk ha2 rfl rfl rfl)⟩
        · intro s hs
          simp only [List.mem_cons, List.not_mem_nil, or_false] at hs
          subst hs
          exact one1 (.inr ⟨1000, _, rfl, rfl⟩)
      refine (calls_of (ctx_ok tabU_ok 45) Try.func82 (c := bodyOf Try.f82) rfl rfl (Nat.le_of_ble_eq_true (by kernel_rfl)) hin (nread_bad h3)).mono ?_
      rintro e w' ⟨v, σ', ρ', a', rfl, rfl, hr, _⟩
      exact ⟨kept_below hr.below, congrArg _ (den_plain hpl ρ ρ')⟩
  · cases hl
    simp only [List.mem_singleton] at hp
    subst hp
    refine ⟨plain2 top_pos (E_plain _), fun ρ w B' hargs => ?_⟩
    refine (read_nil_calls w).mono fun e w' h => ⟨h.2, ?_⟩
    rw [h.1]
    simp [Sv.den, denL, Av.val]
    exact (denL_num ρ0 _).symm
  · cases hl

/-! ## r01.Read of no bytes -/

theorem read_zero {w0 : Base} {F : Nat → Nat} : Goes Try.prog Try.f85.ntmps w0 [.code (bodyOf Try.f85)] .norm (kn (nrA 0) (nrH 0 F))
    (Fin (ctx tabU 49) Try.f85.results.toList fun v _ => v = .tup [N 0, B true]) :=
  goes_ret (ctx_ok tabU_ok 49) mixed rfl (orc := way [(9, 1), (13, 1), (25, 1)]) (stops := []) (f := 3000) (k := [.code (bodyOf Try.f85)]) (o := .norm) (σ := (kn (nrA 0) (nrH 0 F))) (cs := [True, True, True, True, ¬(32 : Int) < (↑(0 : Nat) : Int), True, True, True, ¬(0 : Int) < (↑(0 : Nat) : Int), True, True, True, True, True, True, True, True, True, True, True, True, ¬(0 : Int) < (↑(0 : Nat) : Int), True, True, True]) (o' := .ret) (rs := Try.f85.results.toList) (v := (.tup [N 0, B true])) (H := ([] : List (Nat × Bk))) (by kernel_rfl) (.inr rfl) (by simp [conj]) fun _ _ => rfl

/-- a call that reads one row of no bytes -/
theorem zero_calls {f : FuncId} {fn : Func} {c : Code} (hf : Try.prog.funcs[f]? = some fn) (hb : fn.body = some c) {tab : List Entry} (ht : TabOK tab) {r : Sv} (hpl : r.all Av.plain) {pre : List Sv} (hpre : ∀ s ∈ pre, s.all Av.plain) (hlen : pre.length + 1 ≤ fn.ntmps)
    (hg : ∀ w0, Goes Try.prog fn.ntmps w0 [.code c] .norm (kn (argS 0 (pre ++ [.one [.sl 1000 1 0 0]])) (nrH 0 (fun _ => 0))) (Fin (ctx tab fn.ntmps) fn.results.toList fun v _ => v = r)) {ρ : Env} {w : World} {B' : Nat → Prop} {a : Nat} {o : Bool} {g : Nat → List Av} (ha : BkOK ρ w B' a (.row o 5 1 0 g)) :
    Calls Try.prog f (pre.map (Sv.den ρ0) ++ [(Av.sl a 1 0 0).val ρ]).toArray w fun e w' => Below w.heap.size w w' ∧ e = .returned (r.den ρ) := by
  let ρ2 : Env := ⟨fun _ => ρ.b a, fun _ => ρ.o a, fun _ => ρ.c a⟩
  have hin : InOK (base w ρ2) (pre ++ [.one [.sl 1000 1 0 0]]) (nrH 0 (fun _ => 0)) := by
    refine in_reads ?_ ?_
    · intro q hq
      simp only [nrH, List.mem_cons, List.not_mem_nil, or_false] at hq
      subst hq
      exact ⟨rfl, trivial, BSim.ok (k := .row false 5 1 0 g) (.inr ⟨_, _, _, _, _, _, rfl, rfl, row8_OK _ _, rfl⟩) (read_bk ha rfl rfl rfl)⟩
    · intro s hs
      rcases List.mem_append.1 hs with hs | hs
      · exact Sv.all_mono (fun _ h => .inl h) (hpre s hs)
      · simp only [List.mem_singleton] at hs
        subst hs
        exact one1 (.inr ⟨1000, _, rfl, rfl⟩)
  have := calls_of (ctx_ok ht fn.ntmps) hf hb rfl (by simp; omega) hin (hg _)
  have ev : (pre ++ [Sv.one [.sl 1000 1 0 0]]).map (Sv.den (base w ρ2).ρ) = pre.map (Sv.den ρ0) ++ [(Av.sl a 1 0 0).val ρ] := by
    have e1 : pre.map (Sv.den ρ2) = pre.map (Sv.den ρ0) := List.map_congr_left fun s hs => den_plain (hpre s hs) ρ0 ρ2
    rw [List.map_append]
    show pre.map (Sv.den ρ2) ++ _ = _
    rw [e1]
    rfl
  rw [ev] at this
  refine this.mono ?_
  rintro e w' ⟨v, σ', ρ', a', rfl, rfl, hr, _⟩
  exact ⟨kept_below hr.below, congrArg _ (den_plain hpl ρ ρ')⟩

set_option maxRecDepth 100000 in
theorem read0_e : EOK ⟨85, 1, dcon read0K⟩ := by
  refine dcon_ok (fun a w => Try.call85 a w) fun args l hl p hp hc => ?_
  unfold read0K at hl
  split at hl
  · rename_i a n o n1 f
    cases hl
    simp only [List.mem_singleton] at hp
    subst hp
    obtain ⟨rfl, rfl⟩ := hc
    refine ⟨plain2 top_pos (B_plain _), fun ρ w B' hargs => ?_⟩
    obtain ⟨ida, ha1, ha2, _⟩ := (hargs _ List.mem_cons_self _ List.mem_cons_self).2 _ rfl
    cases ha1
    have h := zero_calls (pre := []) (fn := Try.f85) (r := .tup [N 0, B true]) Try.func85 (c := bodyOf Try.f85) rfl tabU_ok (plain2 top_pos (B_plain _)) (fun _ h => by cases h) (Nat.le_of_ble_eq_true (by kernel_rfl)) (fun w0 => read_zero) ha2
    exact h
  · cases hl
theorem read2_e : EOK ⟨85, 1, dcon readK2⟩ := rread_e.join read0_e fun args outs' ho i oc' hi hc => by
  obtain ⟨l, hl, rfl⟩ := Option.map_eq_some_iff.1 ho
  unfold readK2 at hl
  split at hl
  · cases hl
    match i, hi with
    | 0, hi => exact .inl ⟨_, 0, rfl, hi⟩
    | 1, hi => exact .inl ⟨_, 1, rfl, hi⟩
    | 2, hi => exact .inr ⟨_, 0, rfl, hi⟩
    | i + 3, hi => simp at hi
  · cases hl
    exact .inl ⟨_, i, rfl, hi⟩
  · cases hl

/-! ## r01.Same of no bytes -/

theorem same_zero {w0 : Base} : Goes Try.prog Try.f83.ntmps w0 [.code (bodyOf Try.f83)] .norm (kn (argS 0 [.one [.nil], .one [.sl 1000 1 0 0]]) (nrH 0 (fun _ => 0)))
    (Fin (ctx tabU 26) Try.f83.results.toList fun v _ => v = .one (B true)) :=
  goes_ret (ctx_ok tabU_ok 26) mixed rfl (orc := way [(10, 1), (14, 1)]) (stops := []) (f := 3000) (k := [.code (bodyOf Try.f83)]) (o := .norm) (σ := (kn (argS 0 [.one [.nil], .one [.sl 1000 1 0 0]]) (nrH 0 (fun _ => 0)))) (cs := [True, True, True, True, True, ¬(0 : Int) ≠ (↑(0 : Nat) : Int), True, True, True, True, True, True]) (o' := .ret) (rs := Try.f83.results.toList) (v := (.one (B true))) (H := ([] : List (Nat × Bk))) (by kernel_rfl) (.inr rfl) (by simp [conj]) fun _ _ => rfl

set_option maxRecDepth 100000 in
theorem same0_e : EOK ⟨83, 1, dcon same0K⟩ := by
  refine dcon_ok (fun a w => Try.call83 a w) fun args l hl p hp hc => ?_
  unfold same0K at hl
  split at hl
  · rename_i x a m o m1 g
    cases hl
    simp only [List.mem_singleton] at hp
    subst hp
    obtain ⟨rfl, rfl⟩ := hc
    refine ⟨oneP (B_plain _), fun ρ w B' hargs => ?_⟩
    obtain ⟨ida, ha1, ha2, _⟩ := (hargs _ (List.mem_cons_of_mem _ List.mem_cons_self) _ List.mem_cons_self).2 _ rfl
    cases ha1
    have h := zero_calls (pre := [.one [.nil]]) (fn := Try.f83) (r := .one (B true)) Try.func83 (c := bodyOf Try.f83) rfl tabU_ok (oneP (B_plain _)) (fun s h => by
      simp only [List.mem_singleton] at h
      subst h
      exact one1 trivial) (Nat.le_of_ble_eq_true (by kernel_rfl)) (fun w0 => same_zero) ha2
    exact h
  · cases hl
theorem same2_e : EOK ⟨83, 1, dcon sameK2⟩ := same_e.join same0_e fun args outs' ho i oc' hi hc => by
  obtain ⟨l, hl, rfl⟩ := Option.map_eq_some_iff.1 ho
  unfold sameK2 at hl
  split at hl
  · cases hl
    exact .inl ⟨_, i, rfl, hi⟩
  · cases hl
    exact .inl ⟨_, i, rfl, hi⟩
  · cases hl
    exact .inr ⟨_, i, rfl, hi⟩
  · cases hl

theorem tR_ok : TabOK tR := .cons nread_e (.cons read2_e (.cons same2_e (.cons rbytes_e tN1_ok)))

/-! ## NumBytes -/

theorem nbytes_goes {w0 : Base} {x : Nat} (hx : x < TOP) : Goes Try.prog Try.f28.ntmps w0 [.code (bodyOf Try.f28)] .norm (kn (argS 0 [.one (N x)]) []) (Fin (ctx tR 45) Try.f28.results.toList fun v _ => v = .one (B true)) := by
  by_cases h0 : x = 0
  · subst h0
    exact goes_ret (ctx_ok tR_ok 45) mixed rfl (orc := way [(7, 1), (17, 1)]) (stops := []) (f := 3000) (k := [.code (bodyOf Try.f28)]) (o := .norm) (σ := (kn (argS 0 [.one (N 0)]) [])) (cs := [True, True, True, (0 : Nat) = (0 : Nat), True, True, True, True, True, True, True, True, True, True, True, True, True, (0 : Nat) = (0 : Nat), True, True, True, True, True, True, True, True, True, True, True, True, True, True, True, True, True, True, True, True, True, (0 : Nat) = (0 : Nat), True, True, True, True, True, True]) (o' := .ret) (rs := Try.f28.results.toList) (v := (.one (B true))) (H := ([] : List (Nat × Bk))) (by kernel_rfl) (.inr rfl) (by simp [conj]) fun _ _ => rfl
  · have hp : 0 < x := by omega
    have hn : nb x ≤ 32 := nb_le hx
    have hn0 : 0 < nb x := by rw [nb_pos hp]; omega
    have hb := byt_row8 (F := bys x) (n := nb x) fun i _ => bys_lt x i
    have hr := rb_row8 (bys x)
    have h1 := rn_bys x
    have h2 := bys_zero hp
    have h3 : ∃ F, rowC (row8 (bys x)) (nb x) = rowC (row8 F) (nb x) ∧ rowC (row8 (bys x)) (nb x) = rowC (row8 F) (nb x) := ⟨_, rfl, rfl⟩
    have h4 : nb x < 64 := by omega
    exact goes_ret (ctx_ok tR_ok 45) mixed rfl (orc := way [(28, 1)]) (stops := []) (f := 3000) (k := [.code (bodyOf Try.f28)]) (o := .norm) (σ := (kn (argS 0 [.one (N x)]) [])) (cs := [True, True, True, (0 : Nat) < x, True, True, nb x = nb x ∧ byt (row8 (bys x)) (nb x) ∧ nb x ≤ (32 : Nat) ∧ ((0 : Nat) < nb x → rb (row8 (bys x)) (0 : Nat) ≠ (0 : Nat)), True, True, True, True, True, True, True, True, True, True, (0 : Nat) < x, nb x = nb x ∧ nb x = nb x ∧ nb x = nb x ∧ nb x < (64 : Nat) ∧ ∃ F, rowC (row8 (bys x)) (nb x) = rowC (row8 F) (nb x) ∧ rowC (row8 (bys x)) (nb x) = rowC (row8 F) (nb x), True, True, True, True, (↑(nb x) : Int) ≤ (32 : Int), True, True, True, True, ¬(↑(nb x) : Int) = (0 : Int), True, True, (0 : Int) ≤ (0 : Int) ∧ (0 : Int) < (↑(nb x) : Int), addO (0 : Nat) (0) < nb x, (0 : Int) < (↑(bys x (addO (0 : Nat) (0))) : Int), True, True, True, True, True, rn (rb (row8 (bys x))) (nb x) = x, True, True, True, True, True, True]) (o' := .ret) (rs := Try.f28.results.toList) (v := (.one (B true))) (H := ([] : List (Nat × Bk))) (by kernel_rfl) (.inr rfl) (by simp only [conj, and_true, true_and, addO_eq, Nat.zero_add, Int.toNat_zero, hb, hr, h1, h3, h4, hn, ne_eq, h2, not_false_eq_true, implies_true]; omega) fun _ _ => rfl

theorem num_bytes_calls {x : Nat} (hx : x < TOP) {W : World} : Calls Try.prog 28 #[V x] W fun e w' => Below W.heap.size W w' ∧ e = .returned (.bool true) := by
  have h := pure_calls' (ctx_ok tR_ok 45) Try.func28 (c := bodyOf Try.f28) rfl rfl (args := [N x]) (v := .one (B true)) (Nat.le_of_ble_eq_true (by kernel_rfl)) (by ((repeat' (first | exact argsP_nil | refine argsP_cons ?_ ?_)) <;> (first | exact E_plain _ | exact B_plain _ | exact lit_plain _ _ | exact int_plain _ _ | exact N_plain (by omega) | exact N_plain2 (by omega) (by omega) | assumption))) (oneP (B_plain _)) (fun w0 => nbytes_goes hx) ρ0 W
  simp only [List.map_cons, List.map_nil, denL_num] at h
  exact h

/-! ## NumReads -/

theorem nreads_nil {w0 : Base} : Goes Try.prog Try.f29.ntmps w0 [.code (bodyOf Try.f29)] .norm (kn (argS 0 [.one [.nil]]) []) (Fin (ctx tR 49) Try.f29.results.toList fun v _ => v = .one (B true)) :=
  goes_ret (ctx_ok tR_ok 49) mixed rfl (orc := way [(45, 1)]) (stops := []) (f := 3000) (k := [.code (bodyOf Try.f29)]) (o := .norm) (σ := (kn (argS 0 [.one [.nil]]) [])) (cs := [True, True, True, True, True, True, True, True, True, True, True, True, True, True, True, True, True, True, True, True, True, True, True, True, True, True, True, True, True, True, (0 : Nat) = (0 : Nat), True, True, True, (0 : Nat) = (0 : Nat), True, True, True, True]) (o' := .ret) (rs := Try.f29.results.toList) (v := (.one (B true))) (H := ([] : List (Nat × Bk))) (by kernel_rfl) (.inr rfl) (by simp [conj]) fun _ _ => rfl

theorem nreads_row {w0 : Base} {n : Nat} {F : Nat → Nat} (hF : ∀ i, i < n → F i < 256) : Goes Try.prog Try.f29.ntmps w0 [.code (bodyOf Try.f29)] .norm (kn (nrA n) (nrH n F)) (Fin (ctx tR 49) Try.f29.results.toList fun v _ => v = .one (B true)) := by
  have hb := byt_row8 hF
  have hr := rb_row8 F
  by_cases h300 : 300 < n
  · exact goes_ret (ctx_ok tR_ok 49) mixed rfl (orc := way []) (stops := []) (f := 3000) (k := [.code (bodyOf Try.f29)]) (o := .norm) (σ := (kn (nrA n) (nrH n F))) (cs := [True, True, True, (300 : Int) < (↑n : Int), True, True]) (o' := .ret) (rs := Try.f29.results.toList) (v := (.one (B true))) (H := ([] : List (Nat × Bk))) (by kernel_rfl) (.inr rfl) (by simp only [conj, and_true, true_and]; omega) fun _ _ => rfl
  · by_cases hbad : 32 < n ∨ (0 < n ∧ F 0 = 0)
    · exact goes_ret (ctx_ok tR_ok 49) mixed rfl (orc := way [(9, 1), (13, 1), (18, 1)]) (stops := []) (f := 3000) (k := [.code (bodyOf Try.f29)]) (o := .norm) (σ := (kn (nrA n) (nrH n F))) (cs := [True, True, True, ¬(300 : Int) < (↑n : Int), True, n = n ∧ byt (row8 F) n ∧ ((32 : Nat) < n ∨ (0 : Nat) < n ∧ rb (row8 F) (0 : Nat) = (0 : Nat)), True, True, True, True, True, True, True, n = n ∧ byt (row8 F) n ∧ ((32 : Nat) < n ∨ (0 : Nat) < n ∧ rb (row8 F) (0 : Nat) = (0 : Nat)), True, True, True, True, True, True, True, True, True, True, True, True, True, True, True, True, (0 : Nat) = (0 : Nat), True, True]) (o' := .ret) (rs := Try.f29.results.toList) (v := (.one (B true))) (H := ([] : List (Nat × Bk))) (by kernel_rfl) (.inr rfl) (by simp only [conj, and_true, true_and, hb, hr, hbad]; omega) fun _ _ => rfl
    · by_cases h0 : n = 0
      · subst h0
        exact goes_ret (ctx_ok tR_ok 49) mixed rfl (orc := way [(9, 1), (18, 2), (45, 1)]) (stops := []) (f := 3000) (k := [.code (bodyOf Try.f29)]) (o := .norm) (σ := (kn (nrA 0) (nrH 0 F))) (cs := [True, True, True, ¬(300 : Int) < (↑(0 : Nat) : Int), True, (0 : Nat) = (0 : Nat) ∧ byt (row8 F) (0 : Nat) ∧ (0 : Nat) ≤ (32 : Nat) ∧ ((0 : Nat) < (0 : Nat) → rb (row8 F) (0 : Nat) ≠ (0 : Nat)), True, True, True, True, True, True, True, (0 : Nat) = (0 : Nat) ∧ (0 : Nat) = (0 : Nat), True, True, True, True, True, True, True, True, True, True, True, True, True, True, True, True, rn (rb (row8 F)) (0 : Nat) = (0 : Nat), True, True, True, rn (rb (row8 F)) (0 : Nat) = (0 : Nat), True, (0 : Nat) = (0 : Nat) ∧ (0 : Nat) = (0 : Nat), True, True]) (o' := .ret) (rs := Try.f29.results.toList) (v := (.one (B true))) (H := ([] : List (Nat × Bk))) (by kernel_rfl) (.inr rfl) (by simp [conj, hb, hr, rn]) fun _ _ => rfl
      · have hn : n ≤ 32 := by omega
        have hF0 : F 0 ≠ 0 := by omega
        have h1 := nb_rn hF fun _ => hF0
        have h2 := rn_pos (by omega : 0 < n) hF0
        have h3 : n < 64 := by omega
        have h4 : 0 < n := by omega
        have h5 : ∃ G, rowC (row8 (bys (rn F n))) n = rowC (row8 G) n ∧ rowC (row8 F) n = rowC (row8 G) n := ⟨F, rowC_congr fun i hi => by simp only [row8, h1.2 i hi], rfl⟩
        exact goes_ret (ctx_ok tR_ok 49) mixed rfl (orc := way [(9, 1)]) (stops := []) (f := 3000) (k := [.code (bodyOf Try.f29)]) (o := .norm) (σ := (kn (nrA n) (nrH n F))) (cs := [True, True, True, ¬(300 : Int) < (↑n : Int), True, n = n ∧ byt (row8 F) n ∧ n ≤ (32 : Nat) ∧ ((0 : Nat) < n → rb (row8 F) (0 : Nat) ≠ (0 : Nat)), True, True, True, True, True, True, True, n = n ∧ byt (row8 F) n ∧ n ≤ (32 : Nat) ∧ (0 : Nat) < n ∧ rb (row8 F) (0 : Nat) ≠ (0 : Nat), True, True, True, True, True, True, True, True, True, True, True, True, True, True, True, True, rn (rb (row8 F)) n = rn (rb (row8 F)) n, True, True, True, (0 : Nat) < rn (rb (row8 F)) n, True, nb (rn (rb (row8 F)) n) = nb (rn (rb (row8 F)) n) ∧ n = nb (rn (rb (row8 F)) n) ∧ n = nb (rn (rb (row8 F)) n) ∧ nb (rn (rb (row8 F)) n) < (64 : Nat) ∧ ∃ F_1, rowC (row8 (bys (rn (rb (row8 F)) n))) (nb (rn (rb (row8 F)) n)) = rowC (row8 F_1) (nb (rn (rb (row8 F)) n)) ∧ rowC (row8 F) (nb (rn (rb (row8 F)) n)) = rowC (row8 F_1) (nb (rn (rb (row8 F)) n)), True, True]) (o' := .ret) (rs := Try.f29.results.toList) (v := (.one (B true))) (H := ([] : List (Nat × Bk))) (by kernel_rfl) (.inr rfl) (by simp only [conj, and_true, true_and, hb, hr, hn, h2, h3, h4, h1.1, h5, ne_eq, hF0, not_false_eq_true, implies_true]; omega) fun _ _ => rfl

end M
end Go.Proofs.Ytmjdmhelmgcanaa
