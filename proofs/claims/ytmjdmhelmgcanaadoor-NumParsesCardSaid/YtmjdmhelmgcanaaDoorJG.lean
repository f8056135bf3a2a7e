/- Joined out of smaller texts: Byt, Par, Hal, Pse, Rtx, Txl, Psf, Idx, Npa, Pct. -/
import Derived.Test.YtmjdmhelmgcanaaDoorJF
import Derived.Test.YtmjdmhelmgcanaaDoorJE
import Derived.Shelf.Strings.FuncGrows
import Derived.Lib.ItoaNum
import Derived.Lib.Repeat
import Derived.Laws.RangeAny
/- num.Bytes, r01.Bytes, r01.Same. -/
namespace Go.Proofs.YtmjdmhelmgcanaaDoor
namespace M
open Go.RowKit

def tabU : List Entry := tabM
theorem tabU_ok : TabOK tabU := tabM_ok
set_option linter.unusedSimpArgs false

/-- a row of bytes -/
def row8 (F : Nat → Nat) : Nat → List Av := fun i => [.int .u8 (F i : Nat)]
def btS (i : Int) (v : Av) : List (Nat × Sv) := [(1, .one [.ptr 1 0]), (3, .one [v]), (4, .one [.int .i64 i])]
def btH (x : Nat) : List (Nat × Bk) := [(1, .var [.big 4 x] 24)]
def btH2 (x n : Nat) (F : Nat → Nat) : List (Nat × Bk) := [(1, .var [.big 4 x] 24), (500, .row true 5 1 n (row8 F))]
def btW (x m : Nat) : Nat := lm x (m / 8) / 2 ^ (8 * (m % 8)) % 256
def btG (F : Nat → Nat) (n b : Nat) : Nat → List Av := fun i => bif Nat.blt i n then row8 F i else getL [[.int .u8 (b : Nat)]] (0 + (i - n))
def btG0 (b : Nat) : Nat → List Av := fun i => getL [[.int .u8 (b : Nat)]] (0 + i)
/-- how many bytes -/
def nb (y : Nat) : Nat := if h : y = 0 then 0 else nb (y / 256) + 1
  termination_by y
  decreasing_by omega
/-- the bytes, the highest first -/
def bys (y j : Nat) : Nat := y / 256 ^ (nb y - 1 - j) % 256

theorem wrap8 (n : Nat) : IntKind.u8.wrap (n : Int) = ((n % 256 : Nat) : Int) := rfl

theorem bt_A {w0 : Base} {x m : Nat} (hm : m < 32) (hz : btW x m = 0) :
    Goes Tryd.prog Tryd.f20.ntmps w0 [.code (roundOf 0 (bodyOf Tryd.f20))] .norm (kn (btS (m : Int) .nil) (btH x)) fun k o σ => k = [] ∧ o = .norm ∧ σ = kn (btS ((m : Int) - 1) .nil) (btH x) := by
  have hz' : lm x (m / 8) / 2 ^ (8 * (m % 8)) % 256 = 0 := hz
  exact goes (ctx_ok tabU_ok 31) mixed rfl (gs := []) (gh := []) (orc := way [(18, 1), (20, 1), (24, 1)]) (stops := []) (f := 3000) (k := [.code (roundOf 0 (bodyOf Tryd.f20))]) (o := .norm) (σ := (kn (btS (m : Int) .nil) (btH x))) (cs := [True, (0 : Int) ≤ (↑m : Int), True, (0 : Int) ≤ (↑m : Int) ∧ (-9223372036854775808 : Int) ≤ (↑m : Int) / (8 : Int) ∧ (↑m : Int) / (8 : Int) < (9223372036854775808 : Int), (0 : Int) ≤ (↑m : Int) / (8 : Int) ∧ (↑m : Int) / (8 : Int) < (↑(4 : Nat) : Int), m / 8 < (4 : Nat), True, (0 : Int) ≤ (↑m : Int), (-9223372036854775808 : Int) ≤ (8 : Int) * ((↑m : Int) % (8 : Int)) ∧ (8 : Int) * ((↑m : Int) % (8 : Int)) < (9223372036854775808 : Int), (0 : Int) ≤ (↑(lm x (m / 8)) : Int) ∧ (0 : Int) ≤ (8 : Int) * ((↑m : Int) % (8 : Int)) ∧ (8 : Int) * ((↑m : Int) % (8 : Int)) < (64 : Int), True, True, True, ¬IntKind.wrap IntKind.u8 (↑(lm x (m / 8) / (2 : Nat) ^ (8 * (m % 8))) : Int) ≠ (0 : Int), True, True, True, True, True, True, (-9223372036854775808 : Int) ≤ (↑m : Int) - (1 : Int) ∧ (↑m : Int) - (1 : Int) < (9223372036854775808 : Int), True]) (k' := []) (o' := .norm) (S := (btS ((m : Int) - 1) .nil)) (H := (btH x)) (by kernel_rfl) (by kernel_rfl) (by simp only [conj, and_true, true_and, addO_eq, Nat.zero_add, Int.toNat_natCast, wrap8, hz']; omega)
theorem bt_B {w0 : Base} {x m : Nat} (hm : m < 32) (hz : btW x m ≠ 0) :
    Goes Tryd.prog Tryd.f20.ntmps w0 [.code (roundOf 0 (bodyOf Tryd.f20))] .norm (kn (btS (m : Int) .nil) (btH x)) fun k o σ => k = [] ∧ o = .norm ∧ σ = kn (btS ((m : Int) - 1) (.sl 29 1 0 1)) [(1, .var [.big 4 x] 24), (29, .row true 5 1 1 (btG0 (btW x m)))] := by
  have hz' : lm x (m / 8) / 2 ^ (8 * (m % 8)) % 256 ≠ 0 := hz
  exact goes (ctx_ok tabU_ok 31) mixed rfl (gs := []) (gh := []) (orc := way [(18, 1)]) (stops := []) (f := 3000) (k := [.code (roundOf 0 (bodyOf Tryd.f20))]) (o := .norm) (σ := (kn (btS (m : Int) .nil) (btH x))) (cs := [True, (0 : Int) ≤ (↑m : Int), True, (0 : Int) ≤ (↑m : Int) ∧ (-9223372036854775808 : Int) ≤ (↑m : Int) / (8 : Int) ∧ (↑m : Int) / (8 : Int) < (9223372036854775808 : Int), (0 : Int) ≤ (↑m : Int) / (8 : Int) ∧ (↑m : Int) / (8 : Int) < (↑(4 : Nat) : Int), m / 8 < (4 : Nat), True, (0 : Int) ≤ (↑m : Int), (-9223372036854775808 : Int) ≤ (8 : Int) * ((↑m : Int) % (8 : Int)) ∧ (8 : Int) * ((↑m : Int) % (8 : Int)) < (9223372036854775808 : Int), (0 : Int) ≤ (↑(lm x (m / 8)) : Int) ∧ (0 : Int) ≤ (8 : Int) * ((↑m : Int) % (8 : Int)) ∧ (8 : Int) * ((↑m : Int) % (8 : Int)) < (64 : Int), True, True, True, IntKind.wrap IntKind.u8 (↑(lm x (m / 8) / (2 : Nat) ^ (8 * (m % 8))) : Int) ≠ (0 : Int), True, True, True, True, True, True, True, True, (0 : Nat) < (1 : Nat) ∧ (0 : Nat) + (1 : Nat) ≤ (1 : Nat) ∧ (1 : Nat) * (1 : Nat) ≤ (140737488355328 : Nat), True, True, (-9223372036854775808 : Int) ≤ (↑m : Int) - (1 : Int) ∧ (↑m : Int) - (1 : Int) < (9223372036854775808 : Int), True]) (k' := []) (o' := .norm) (S := (btS ((m : Int) - 1) (.sl 29 1 0 1))) (H := [(1, .var [.big 4 x] 24), (29, .row true 5 1 1 (btG0 (btW x m)))]) (by kernel_rfl) (by kernel_rfl) (by simp only [conj, and_true, true_and, addO_eq, Nat.zero_add, Int.toNat_natCast, wrap8]; omega)
theorem bt_C {w0 : Base} {x m n : Nat} {F : Nat → Nat} (hm : m < 32) (hn : n < 40) (hn0 : 0 < n) :
    Goes Tryd.prog Tryd.f20.ntmps w0 [.code (roundOf 0 (bodyOf Tryd.f20))] .norm (kn (btS (m : Int) (.sl 500 1 0 n)) (btH2 x n F)) fun k o σ => k = [] ∧ o = .norm ∧ σ = kn (btS ((m : Int) - 1) (.sl 29 1 0 (n + 1))) [(1, .var [.big 4 x] 24), (29, .row true 5 1 (n + 1) (btG F n (btW x m)))] := by
  by_cases hz : btW x m = 0
  · have hz' : lm x (m / 8) / 2 ^ (8 * (m % 8)) % 256 = 0 := hz
    exact goes (ctx_ok tabU_ok 31) mixed rfl (gs := []) (gh := []) (orc := way [(18, 1), (20, 1)]) (stops := []) (f := 3000) (k := [.code (roundOf 0 (bodyOf Tryd.f20))]) (o := .norm) (σ := (kn (btS (m : Int) (.sl 500 1 0 n)) (btH2 x n F))) (cs := [True, (0 : Int) ≤ (↑m : Int), True, (0 : Int) ≤ (↑m : Int) ∧ (-9223372036854775808 : Int) ≤ (↑m : Int) / (8 : Int) ∧ (↑m : Int) / (8 : Int) < (9223372036854775808 : Int), (0 : Int) ≤ (↑m : Int) / (8 : Int) ∧ (↑m : Int) / (8 : Int) < (↑(4 : Nat) : Int), m / 8 < (4 : Nat), True, (0 : Int) ≤ (↑m : Int), (-9223372036854775808 : Int) ≤ (8 : Int) * ((↑m : Int) % (8 : Int)) ∧ (8 : Int) * ((↑m : Int) % (8 : Int)) < (9223372036854775808 : Int), (0 : Int) ≤ (↑(lm x (m / 8)) : Int) ∧ (0 : Int) ≤ (8 : Int) * ((↑m : Int) % (8 : Int)) ∧ (8 : Int) * ((↑m : Int) % (8 : Int)) < (64 : Int), True, True, True, ¬IntKind.wrap IntKind.u8 (↑(lm x (m / 8) / (2 : Nat) ^ (8 * (m % 8))) : Int) ≠ (0 : Int), True, True, True, (0 : Int) < (↑n : Int), True, True, True, True, n = n ∧ (0 : Nat) < (1 : Nat) ∧ (0 : Nat) + (1 : Nat) ≤ (1 : Nat) ∧ (n + (1 : Nat)) * (1 : Nat) ≤ (140737488355328 : Nat), True, True, (-9223372036854775808 : Int) ≤ (↑m : Int) - (1 : Int) ∧ (↑m : Int) - (1 : Int) < (9223372036854775808 : Int), True]) (k' := []) (o' := .norm) (S := (btS ((m : Int) - 1) (.sl 29 1 0 (n + 1)))) (H := [(1, .var [.big 4 x] 24), (29, .row true 5 1 (n + 1) (btG F n (btW x m)))]) (by kernel_rfl) (by kernel_rfl) (by simp only [conj, and_true, true_and, addO_eq, Nat.zero_add, Int.toNat_natCast, wrap8, hz']; omega)
  · have hz' : lm x (m / 8) / 2 ^ (8 * (m % 8)) % 256 ≠ 0 := hz
    exact goes (ctx_ok tabU_ok 31) mixed rfl (gs := []) (gh := []) (orc := way [(18, 1)]) (stops := []) (f := 3000) (k := [.code (roundOf 0 (bodyOf Tryd.f20))]) (o := .norm) (σ := (kn (btS (m : Int) (.sl 500 1 0 n)) (btH2 x n F))) (cs := [True, (0 : Int) ≤ (↑m : Int), True, (0 : Int) ≤ (↑m : Int) ∧ (-9223372036854775808 : Int) ≤ (↑m : Int) / (8 : Int) ∧ (↑m : Int) / (8 : Int) < (9223372036854775808 : Int), (0 : Int) ≤ (↑m : Int) / (8 : Int) ∧ (↑m : Int) / (8 : Int) < (↑(4 : Nat) : Int), m / 8 < (4 : Nat), True, (0 : Int) ≤ (↑m : Int), (-9223372036854775808 : Int) ≤ (8 : Int) * ((↑m : Int) % (8 : Int)) ∧ (8 : Int) * ((↑m : Int) % (8 : Int)) < (9223372036854775808 : Int), (0 : Int) ≤ (↑(lm x (m / 8)) : Int) ∧ (0 : Int) ≤ (8 : Int) * ((↑m : Int) % (8 : Int)) ∧ (8 : Int) * ((↑m : Int) % (8 : Int)) < (64 : Int), True, True, True, IntKind.wrap IntKind.u8 (↑(lm x (m / 8) / (2 : Nat) ^ (8 * (m % 8))) : Int) ≠ (0 : Int), True, True, True, True, True, True, True, True, n = n ∧ (0 : Nat) < (1 : Nat) ∧ (0 : Nat) + (1 : Nat) ≤ (1 : Nat) ∧ (n + (1 : Nat)) * (1 : Nat) ≤ (140737488355328 : Nat), True, True, (-9223372036854775808 : Int) ≤ (↑m : Int) - (1 : Int) ∧ (↑m : Int) - (1 : Int) < (9223372036854775808 : Int), True]) (k' := []) (o' := .norm) (S := (btS ((m : Int) - 1) (.sl 29 1 0 (n + 1)))) (H := [(1, .var [.big 4 x] 24), (29, .row true 5 1 (n + 1) (btG F n (btW x m)))]) (by kernel_rfl) (by kernel_rfl) (by simp only [conj, and_true, true_and, addO_eq, Nat.zero_add, Int.toNat_natCast, wrap8]; omega)

theorem nb_zero : nb 0 = 0 := by rw [nb]; simp
theorem nb_pos {y : Nat} (h : 0 < y) : nb y = nb (y / 256) + 1 := by
  rw [nb]; rw [dif_neg (by omega)]
theorem nb_step {y b : Nat} (hb : b < 256) (h : 0 < 256 * y + b) : nb (256 * y + b) = nb y + 1 := by
  rw [nb_pos h, show (256 * y + b) / 256 = y by omega]
theorem bys_step {y b j : Nat} (hb : b < 256) (h : 0 < 256 * y + b) (hj : j < nb y) : bys (256 * y + b) j = bys y j := by
  unfold bys
  rw [nb_step hb h, show nb y + 1 - 1 - j = (nb y - 1 - j) + 1 by omega, Nat.pow_succ, Nat.mul_comm (256 ^ _), ← Nat.div_div_eq_div_mul, show (256 * y + b) / 256 = y by omega]
theorem bys_last {y b : Nat} (hb : b < 256) (h : 0 < 256 * y + b) : bys (256 * y + b) (nb y) = b := by
  unfold bys
  rw [nb_step hb h, show nb y + 1 - 1 - nb y = 0 by omega, Nat.pow_zero, Nat.div_one]
  omega
theorem nb_le {y k : Nat} (h : y < 256 ^ k) : nb y ≤ k := by
  induction k generalizing y with
  | zero =>
    have e : y = 0 := by simpa using h
    subst e; rw [nb_zero]; omega
  | succ k ih =>
    rcases Nat.eq_zero_or_pos y with e | e
    · subst e; rw [nb_zero]; omega
    · rw [nb_pos e]
      have := ih (y := y / 256) ((Nat.div_lt_iff_lt_mul (by omega)).2 (by rw [← Nat.pow_succ]; exact h))
      omega

theorem btW_eq {x m : Nat} (_ : m < 32) : btW x m = x / 256 ^ m % 256 := by
  have e3 : (256 : Nat) ^ m = 18446744073709551616 ^ (m / 8) * 2 ^ (8 * (m % 8)) := by
    rw [word_pow, show (256 : Nat) = 2 ^ 8 from rfl, ← Nat.pow_mul]
    congr 1; omega
  have e2 : ∀ y k, k ≤ 56 → y % 18446744073709551616 / 2 ^ k % 256 = y / 2 ^ k % 256 := by
    intro y k hk
    have e : 18446744073709551616 = 2 ^ k * (256 * 2 ^ (56 - k)) := by
      rw [show (256 : Nat) = 2 ^ 8 from rfl, ← Nat.pow_add, ← Nat.pow_add, show k + (8 + (56 - k)) = 64 by omega]
    rw [e, Nat.mod_mul_right_div_self, Nat.mod_mul_right_mod]
  unfold btW
  rw [show lm x (m / 8) = x / 18446744073709551616 ^ (m / 8) % 18446744073709551616 from rfl, e2 _ _ (by omega), e3, ← Nat.div_div_eq_div_mul]

theorem row8_OK (F : Nat → Nat) (n : Nat) : RowOK 1 n (row8 F) := ⟨by omega, fun i _ => ⟨rfl, fun a ha => by simp only [row8, List.mem_singleton] at ha; subst ha; trivial⟩⟩

/-- the bytes that are written already -/
def btSt (x : Nat) (p : Int × Nat) : Ms := if p.2 = 0 then kn (btS p.1 .nil) (btH x) else kn (btS p.1 (.sl 500 1 0 (nb p.2))) (btH2 x (nb p.2) (bys p.2))

theorem bt_round {w0 : Base} {x m y : Nat} (hx : x < TOP) (hm : m < 32) (hy : y = x / 256 ^ (m + 1)) :
    Goes Tryd.prog Tryd.f20.ntmps w0 [.code (roundOf 0 (bodyOf Tryd.f20))] .norm (btSt x ((m : Int), y)) fun k o σ => k = [] ∧ o = .norm ∧ ∃ σ0, σ = σ0 ∧ ∀ {nt : Nat} {kk : List Fr} {Z : List Fr → Out → Ms → Prop}, Goes Tryd.prog nt w0 kk .norm (btSt x ((m : Int) - 1, x / 256 ^ m)) Z → Goes Tryd.prog nt w0 kk .norm σ0 Z := by
  have hb : btW x m < 256 := Nat.mod_lt _ (by omega)
  have hstep : x / 256 ^ m = 256 * y + btW x m := by
    rw [btW_eq hm, hy, Nat.pow_succ, ← Nat.div_div_eq_div_mul]
    omega
  have hle : y ≤ x := by rw [hy]; exact Nat.div_le_self _ _
  have hnb : nb y ≤ 32 := nb_le (Nat.lt_of_le_of_lt hle hx)
  rw [hstep]
  rcases Nat.eq_zero_or_pos y with e | e
  · have e1 : btSt x ((m : Int), y) = kn (btS (m : Int) .nil) (btH x) := by unfold btSt; rw [if_pos e]
    rw [e1]
    by_cases hz : btW x m = 0
    · refine (bt_A hm hz).mono ?_
      rintro k o σ ⟨rfl, rfl, rfl⟩
      refine ⟨rfl, rfl, _, rfl, fun g => ?_⟩
      have e2 : btSt x ((m : Int) - 1, 256 * y + btW x m) = kn (btS ((m : Int) - 1) .nil) (btH x) := by unfold btSt; rw [if_pos (by show 256 * y + btW x m = 0; omega)]
      rw [e2] at g
      exact g
    · refine (bt_B hm hz).mono ?_
      rintro k o σ ⟨rfl, rfl, rfl⟩
      refine ⟨rfl, rfl, _, rfl, fun g => ?_⟩
      have hp : 0 < 256 * y + btW x m := by omega
      have hn : nb (256 * y + btW x m) = 1 := by rw [nb_step hb hp, e, nb_zero]
      have e2 : btSt x ((m : Int) - 1, 256 * y + btW x m) = kn (btS ((m : Int) - 1) (.sl 500 1 0 1)) (btH2 x 1 (bys (256 * y + btW x m))) := by
        unfold btSt; rw [if_neg (by show ¬ 256 * y + btW x m = 0; omega)]
        simp only [hn]
      rw [e2] at g
      refine goes_name (a := 29) (b := 500) (by omega) (by omega) (by simp) ?_
      refine goes_sim (.same _ (.row (row8_OK (bys (256 * y + btW x m)) 1) ?_ .nil)) g
      refine rowC_congr fun i hi => ?_
      obtain rfl : i = 0 := by omega
      have := bys_last hb hp
      rw [e, nb_zero] at this
      simp only [row8, e]
      rw [this]; rfl
  · have e1 : btSt x ((m : Int), y) = kn (btS (m : Int) (.sl 500 1 0 (nb y))) (btH2 x (nb y) (bys y)) := by unfold btSt; rw [if_neg (by show ¬ y = 0; omega)]
    have hn0 : 0 < nb y := by rw [nb_pos e]; omega
    rw [e1]
    refine (bt_C hm (by omega) hn0).mono ?_
    rintro k o σ ⟨rfl, rfl, rfl⟩
    refine ⟨rfl, rfl, _, rfl, fun g => ?_⟩
    have hp : 0 < 256 * y + btW x m := by omega
    have e2 : btSt x ((m : Int) - 1, 256 * y + btW x m) = kn (btS ((m : Int) - 1) (.sl 500 1 0 (nb y + 1))) (btH2 x (nb y + 1) (bys (256 * y + btW x m))) := by
      unfold btSt; rw [if_neg (by show ¬ 256 * y + btW x m = 0; omega)]
      simp only [nb_step hb hp]
    rw [e2] at g
    refine goes_name (a := 29) (b := 500) (by omega) (by omega) (by simp) ?_
    refine goes_sim (.same _ (.row (row8_OK (bys (256 * y + btW x m)) (nb y + 1)) ?_ .nil)) g
    refine rowC_congr fun i hi => ?_
    unfold btG
    by_cases hi2 : i < nb y
    · have : Nat.blt i (nb y) = true := Nat.ble_eq_true_of_le hi2
      rw [this]
      simp only [row8, cond_true, bys_step hb hp hi2]
    · obtain rfl : i = nb y := by omega
      have : Nat.blt (nb y) (nb y) = false := by
        cases h : Nat.blt (nb y) (nb y) with
        | false => rfl
        | true => exact absurd (Nat.le_of_ble_eq_true h) (Nat.lt_irrefl _)
      rw [this]
      simp only [row8, cond_false, Nat.sub_self, bys_last hb hp]
      rfl

theorem goes_here {nt : Nat} {w0 : Base} {k : List Fr} {o : Out} {σ : Ms} {Z : List Fr → Out → Ms → Prop} (h : Z k o σ) : Goes Tryd.prog nt w0 k o σ Z := fun _ hQ ρ a w hr => hQ _ _ _ h ρ a w hr

theorem bytes_goes {w0 : Base} {x : Nat} (hx : x < TOP) : Goes Tryd.prog Tryd.f20.ntmps w0 [.code (bodyOf Tryd.f20)] .norm (kn (argS 0 [.one (N x)]) [])
    (Fin (ctx tabU 31) Tryd.f20.results.toList fun v σ => (x = 0 ∧ v = .one [.nil]) ∨ (0 < x ∧ v = .one [.sl 500 1 0 (nb x)] ∧ σ.heap 500 = some (.row true 5 1 (nb x) (row8 (bys x))))) := by
  refine (goes (ctx_ok tabU_ok 31) mixed rfl (gs := [4]) (gh := []) (orc := way []) (stops := [0]) (f := 3000) (k := [.code (bodyOf Tryd.f20)]) (o := .norm) (σ := (kn (argS 0 [.one (N x)]) [])) (cs := [True, True, True, True]) (k' := (kOf 0 (bodyOf Tryd.f20))) (o' := .norm) (S := (btS 31 .nil)) (H := (btH x)) (by kernel_rfl) (by kernel_rfl) (by simp [conj])).bind ?_
  rintro k o σ ⟨rfl, rfl, rfl⟩
  have hk : kOf 0 (bodyOf Tryd.f20) = .code (.block 0 (.loop (roundOf 0 (bodyOf Tryd.f20)))) :: restOf 0 (bodyOf Tryd.f20) := by kernel_rfl
  rw [hk]
  have hx0 : x / 256 ^ 32 = 0 := Nat.div_eq_of_lt hx
  refine (goes_loop (btSt x) (fun p => -1 ≤ p.1 ∧ p.1 ≤ 31 ∧ p.2 = x / 256 ^ (p.1 + 1).toNat) (fun p => (p.1 + 1).toNat) (fun o σ => o = .norm ∧ σ = btSt x (-1, x)) ?_ (p := (31, 0))
    ⟨by show -1 ≤ (31 : Int); omega, by show (31 : Int) ≤ 31; omega, hx0.symm⟩).bind ?_
  · rintro ⟨i, y⟩ ⟨h1, h2, h3⟩
    simp only at h1 h2 h3
    by_cases hi : i < 0
    · obtain rfl : i = -1 := by omega
      have e0 : ((-1 : Int) + 1).toNat = 0 := rfl
      rw [e0, Nat.pow_zero, Nat.div_one] at h3
      subst h3
      unfold btSt
      by_cases hz : y = 0
      · simp only [if_pos hz]
        refine (goes (ctx_ok tabU_ok 31) mixed rfl (gs := []) (gh := []) (orc := way [(7, 1)]) (stops := []) (f := 3000) (k := [.code (roundOf 0 (bodyOf Tryd.f20))]) (o := .norm) (σ := (kn (btS (-1) .nil) (btH y))) (cs := [True, ¬(0 : Int) ≤ (-1 : Int)]) (k' := []) (o' := (.exit 0)) (S := (btS (-1) .nil)) (H := (btH y)) (by kernel_rfl) (by kernel_rfl) (by simp [conj])).mono ?_
        rintro k o σ ⟨rfl, rfl, rfl⟩
        exact ⟨rfl, .inr ⟨by simp, rfl, rfl⟩⟩
      · simp only [if_neg hz]
        refine (goes (ctx_ok tabU_ok 31) mixed rfl (gs := []) (gh := []) (orc := way [(7, 1)]) (stops := []) (f := 3000) (k := [.code (roundOf 0 (bodyOf Tryd.f20))]) (o := .norm) (σ := (kn (btS (-1) (.sl 500 1 0 (nb y))) (btH2 y (nb y) (bys y)))) (cs := [True, ¬(0 : Int) ≤ (-1 : Int)]) (k' := []) (o' := (.exit 0)) (S := (btS (-1) (.sl 500 1 0 (nb y)))) (H := (btH2 y (nb y) (bys y))) (by kernel_rfl) (by kernel_rfl) (by simp [conj])).mono ?_
        rintro k o σ ⟨rfl, rfl, rfl⟩
        exact ⟨rfl, .inr ⟨by simp, rfl, rfl⟩⟩
    · obtain ⟨m, rfl⟩ := Int.eq_ofNat_of_zero_le (Int.not_lt.1 hi)
      have e1 : ((m : Int) + 1).toNat = m + 1 := by omega
      have e2 : ((m : Int) - 1 + 1).toNat = m := by omega
      rw [e1] at h3
      refine (bt_round hx (by omega) h3).bind ?_
      rintro k o σ ⟨rfl, rfl, σ0, rfl, g⟩
      refine g (goes_here ?_)
      exact ⟨rfl, .inl ⟨rfl, _, ⟨by show -1 ≤ (m : Int) - 1; omega, by show (m : Int) - 1 ≤ 31; omega, by show x / 256 ^ m = x / 256 ^ ((m : Int) - 1 + 1).toNat; rw [e2]⟩, by show ((m : Int) - 1 + 1).toNat < ((m : Int) + 1).toNat; omega, rfl⟩⟩
  · rintro k o σ ⟨rfl, rfl, rfl⟩
    unfold btSt
    by_cases hz : x = 0
    · simp only [if_pos hz]
      exact goes_ret (ctx_ok tabU_ok 31) mixed rfl (orc := way []) (stops := []) (f := 3000) (k := (restOf 0 (bodyOf Tryd.f20))) (o := .norm) (σ := (kn (btS (-1) .nil) (btH x))) (cs := [True, True]) (o' := .ret) (rs := Tryd.f20.results.toList) (v := (.one [.nil])) (H := ([] : List (Nat × Bk))) (by kernel_rfl) (.inr rfl) (by simp [conj]) fun _ _ => .inl ⟨hz, rfl⟩
    · simp only [if_neg hz]
      exact goes_ret (ctx_ok tabU_ok 31) mixed rfl (orc := way []) (stops := []) (f := 3000) (k := (restOf 0 (bodyOf Tryd.f20))) (o := .norm) (σ := (kn (btS (-1) (.sl 500 1 0 (nb x))) (btH2 x (nb x) (bys x)))) (cs := [True, True]) (o' := .ret) (rs := Tryd.f20.results.toList) (v := (.one [.sl 500 1 0 (nb x)])) (H := [(500, Bk.row true 5 1 (nb x) (row8 (bys x)))]) (by kernel_rfl) (.inr rfl) (by simp [conj]) fun σ hσ => .inr ⟨by omega, rfl, hσ (500, _) List.mem_cons_self⟩

end M
end Go.Proofs.YtmjdmhelmgcanaaDoor

/- num.Parse of a text that begins with a nought. -/
namespace Go.Proofs.YtmjdmhelmgcanaaDoor
open Go.RowKit Go.Shelf

def renPar : Ren := { f := fun n => if n = 15 then 34 else if n = 17 then 14 else 50, t := fun n => if n = 23 then 36 else n, g := fun n => n }
theorem laysPar : LaysGw.n17 Tryd.prog renPar where
  mixed := by kernel_rfl
  f15 := by kernel_rfl
  f17 := by kernel_rfl
  f20 := by kernel_rfl
  t0 := Tryd.underlying0
  a0 := Tryd.isAgg0
  z0 := Tryd.sizeOf0
  v0 := Tryd.zeroValue0
  i0 := by kernel_rfl
  t3 := Tryd.underlying3
  a3 := Tryd.isAgg3
  z3 := Tryd.sizeOf3
  v3 := Tryd.zeroValue3
  i3 := by kernel_rfl
  t4 := Tryd.underlying4
  a4 := Tryd.isAgg4
  z4 := Tryd.sizeOf4
  v4 := Tryd.zeroValue4
  i4 := by kernel_rfl
  t9 := Tryd.underlying9
  a9 := Tryd.isAgg9
  z9 := Tryd.sizeOf9
  v9 := Tryd.zeroValue9
  i9 := by kernel_rfl
  t21 := Tryd.underlying21
  a21 := Tryd.isAgg21
  z21 := Tryd.sizeOf21
  v21 := Tryd.zeroValue21
  i21 := by kernel_rfl
  t23 := Tryd.underlying36
  a23 := Tryd.isAgg36
  z23 := Tryd.sizeOf36
  v23 := Tryd.zeroValue36
  i23 := by kernel_rfl

/-- no digit -/
def noDigit (x : Nat) : Bool := decide (x < 48) || decide (57 < x)

theorem noDigit_calls (x : Nat) (w : World) : Calls Tryd.prog 13 #[.int .i32 x] w fun e w' => e = .returned (.bool (noDigit x)) ∧ Below w.heap.size w w' := by
  have e1 : (decide ((x : Int) < 48) || decide (57 < (x : Int))) = noDigit x := by
    unfold noDigit
    congr 1 <;> (rw [decide_eq_decide]; omega)
  rw [← e1]
  go_enter Tryd.func13, Tryd.ntmps13
  by_cases h : (x : Int) < 48
  · have e2 : noDigit x = true := by rw [← e1]; simp [h]
    rw [e1, e2]
    go_wp2
    go_ret
    exact ⟨rfl, Below.refl _ _⟩
  · have e2 : noDigit x = decide (57 < (x : Int)) := by rw [← e1]; simp [h]
    rw [e1, e2]
    go_wp2
    go_ret
    exact ⟨rfl, Below.refl _ _⟩

theorem zeroes_idx : Lib.idxFunc noDigit true ⟨#[48, 48, 55]⟩ = -1 := by kernel_rfl

theorem contains_calls (w : World) : Calls Tryd.prog 14 #[.string ⟨#[48, 48, 55]⟩, .func (.func 13) #[] #[]] w fun e w' => e = .returned (.bool false) ∧ Below w.heap.size w w' := by
  have h := Any.strings_ContainsFunc_grows laysPar 13 #[] (fun a w => Tryd.call13 a w) noDigit ⟨#[48, 48, 55]⟩ w (fun W x _ _ => noDigit_calls x W)
  rw [zeroes_idx] at h
  exact h

set_option maxHeartbeats 1000000 in
theorem parse_calls (w : World) : Calls Tryd.prog 6 #[.string ⟨#[48, 48, 55]⟩] w fun e w' => e = .returned (.tuple #[V4 0 0 0 0, .int .i64 4]) ∧ Below w.heap.size w w' := by
  unfold V4
  go_enter Tryd.func6, Tryd.ntmps6
  go_wp2_with (go_at_fn 14; fail)
  refine (contains_calls _).mono ?_
  rintro e w1 ⟨rfl, hb⟩
  obtain ⟨q0, q1, q2, q3, hz⟩ := cells4 ((hb.block w.heap.size (by simp)).trans (heap_alloc_new w _))
  have z0 := hz 0
  have z1 := hz 1
  have z2 := hz 2
  have z3 := hz 3
  go_wp2
  refine bodyPost_ret (v := .tuple #[.agg #[.int .u64 0, .int .u64 0, .int .u64 0, .int .u64 0], .int .i64 4]) (by simp [results, Tryd.results6, go_sem, q0, q1, q2, q3]) rfl ⟨rfl, ?_⟩
  have hB : Below w.heap.size w w1 := ((Below.refl w.heap.size w).alloc (Nat.le_refl _) _).trans (hb.mono (by simp))
  repeat (first | exact hB | refine Below.setCell ?_ (by simp) _)

end Go.Proofs.YtmjdmhelmgcanaaDoor

/- num.Bytes, r01.Same, num.Parse as contracts; the law's halves. -/
namespace Go.Proofs.YtmjdmhelmgcanaaDoor
namespace M
open Go.RowKit
set_option linter.unusedSimpArgs false

def bytesC : Con
  | [[(.big 4 x, none)]] => some [⟨0 < x, fun d => .one [.sl d 1 0 (nb x)], fun d => .new d (.row true 5 1 (nb x) (row8 (bys x)))⟩, ⟨x = 0, fun _ => .one [.nil], fun _ => .nop⟩]
  | _ => none
def sameK : DCon
  | [[(.sl _ 1 0 n, some (.row _ 5 1 n1 f))], [(.sl _ 1 0 m, some (.row _ 5 1 m1 g))]] =>
    some [(n1 = n ∧ m1 = n ∧ m = n ∧ n < 64 ∧ ∃ F, rowC f n = rowC (row8 F) n ∧ rowC g n = rowC (row8 F) n, .one (B true))]
  | [[(.nil, _)], [(.nil, _)]] => some [(True, .one (B true))]
  | _ => none
def parK : PCon
  | [[.str s]] => some [(s = ⟨#[48, 48, 55]⟩, .tup [N 0, E 4])]
  | _ => none
def tH : List Entry := ⟨20, 0, bytesC⟩ :: ⟨19, 1, dcon sameK⟩ :: ⟨6, 0, pcon parK⟩ :: tabU
def smS (n i : Nat) : List (Nat × Sv) := [(0, .one [.sl 1000 1 0 n]), (1, .one [.sl 1001 1 0 n]), (5, .one [.int .i64 (i : Nat)])]
def smH (n : Nat) (F : Nat → Nat) : List (Nat × Bk) := [(1000, .row false 5 1 n (row8 F)), (1001, .row false 5 1 n (row8 F))]

theorem bytesE {f : Nat} (hcall : ∀ args w, (callFunc f args).run Tryd.prog w = .ok (.enter f args) w)
    (h : ∀ x, x < TOP → ∀ ρ w, Calls Tryd.prog f ([N x].map (denL ρ)).toArray w fun e' w' => (x = 0 ∧ e' = .returned ((Sv.one [.nil]).den ρ) ∧ Below w.heap.size w w') ∨
      (0 < x ∧ ∃ nt ρc ρ' σ' a' s g, e' = .returned ((Sv.one [.sl s 1 0 (nb x)]).den ρ') ∧ Rep nt (base w ρc) ρ' σ' a' w' ∧ σ'.heap s = some (.row true 5 1 (nb x) g) ∧ rowC g (nb x) = rowC (row8 (bys x)) (nb x))) : EOK ⟨f, 0, bytesC⟩ := by
  constructor
  · intro args outs ho hargs i oc hi hc d
    have ho' : bytesC args = some outs := ho
    unfold bytesC at ho'
    split at ho'
    · rename_i x
      cases ho'
      have hi' := List.mem_of_getElem? hi
      simp only [List.mem_cons, List.not_mem_nil, or_false] at hi'
      rcases hi' with rfl | rfl
      · exact ⟨(fun d' h => by cases h; rfl), (fun id' h => by cases h), (fun id' k' h => by cases h; exact ⟨rfl, trivial, row8_OK _ _⟩), one1 (.inr (.inl ⟨rfl, rfl, rfl⟩))⟩
      · exact ⟨(fun _ h => by cases h), (fun _ h => by cases h), (fun _ _ h => by cases h), one1 (.inl trivial)⟩
    · cases ho'
  · intro args outs ho i oc hi hc ρ w B' d hB hargs hd hinj
    have ho' : bytesC args = some outs := ho
    unfold bytesC at ho'
    split at ho'
    · rename_i x
      cases ho'
      have hi' := List.mem_of_getElem? hi
      have hx : x < TOP := by rw [← pow64_4]; exact (hargs _ List.mem_cons_self _ List.mem_cons_self).1 rfl
      refine ⟨hcall _ _, ?_⟩
      simp only [List.mem_cons, List.not_mem_nil, or_false] at hi'
      rcases hi' with rfl | rfl
      · have hc' : 0 < x := hc
        refine (h x hx ρ w).mono ?_
        rintro e w' (⟨h0, _⟩ | ⟨_, nt, ρc, ρ', σ', a', s, g, rfl, hr, hs, hrow⟩)
        · omega
        · exact ⟨_, fresh_post (d := d) (ρe := ρ) hB hr hs (row8_OK _ _) hrow, congrArg _ (fresh_val (ρe := ρ) hr hs)⟩
      · have hc' : x = 0 := hc
        refine (h x hx ρ w).mono ?_
        rintro e w' (⟨_, rfl, hb⟩ | ⟨h0, _⟩)
        · exact ⟨ρ, postBelow hb, rfl⟩
        · omega
    · cases ho'

theorem bytes_e : EOK ⟨20, 0, bytesC⟩ := bytesE (fun a w => Tryd.call20 a w) fun x hx ρ w => by
  refine (calls_of (w0 := base w ρ) (ctx_ok tabU_ok 31) Tryd.func20 (c := bodyOf Tryd.f20) rfl rfl (args := [.one (N x)]) (Nat.le_of_ble_eq_true (by kernel_rfl)) (plain_in (base w ρ) [N x] (by ((repeat' (first | exact argsP_nil | refine argsP_cons ?_ ?_)) <;> (first | exact E_plain _ | exact B_plain _ | exact lit_plain _ _ | exact int_plain _ _ | exact N_plain (by omega) | exact N_plain2 (by omega) (by omega) | assumption)))) (bytes_goes hx)).mono ?_
  rintro e w' ⟨v, σ', ρ', a', ⟨h0, rfl⟩ | ⟨h0, rfl, hs⟩, rfl, hr, _⟩
  · exact .inl ⟨h0, rfl, kept_below hr.below⟩
  · exact .inr ⟨h0, 31, ρ, ρ', σ', a', 500, _, rfl, hr, hs, rfl⟩

theorem same_goes {w0 : Base} {F : Nat → Nat} {n : Nat} (hn : n < 64) : Goes Tryd.prog Tryd.f19.ntmps w0 [.code (bodyOf Tryd.f19)] .norm (kn (argS 0 [.one [.sl 1000 1 0 n], .one [.sl 1001 1 0 n]]) (smH n F))
    (Fin (ctx tabU 26) Tryd.f19.results.toList fun v _ => v = .one (B true)) := by
  refine (goes (ctx_ok tabU_ok 26) mixed rfl (gs := [5]) (gh := []) (orc := way [(10, 1)]) (stops := [0]) (f := 3000) (k := [.code (bodyOf Tryd.f19)]) (o := .norm) (σ := (kn (argS 0 [.one [.sl 1000 1 0 n], .one [.sl 1001 1 0 n]]) (smH n F))) (cs := [True, True, True, True, True, ¬(↑n : Int) ≠ (↑n : Int), True]) (k' := (kOf 0 (bodyOf Tryd.f19))) (o' := .norm) (S := (smS n 0)) (H := (smH n F)) (by kernel_rfl) (by kernel_rfl) (by simp [conj])).bind ?_
  rintro k o σ ⟨rfl, rfl, rfl⟩
  have hk : kOf 0 (bodyOf Tryd.f19) = .code (.block 0 (.loop (roundOf 0 (bodyOf Tryd.f19)))) :: restOf 0 (bodyOf Tryd.f19) := by kernel_rfl
  rw [hk]
  refine (goes_loop (fun i : Nat => kn (smS n i) (smH n F)) (fun i => i ≤ n) (fun i => n - i) (fun o σ => o = .norm ∧ σ = kn (smS n n) (smH n F)) ?_ (p := 0) (Nat.zero_le _)).bind ?_
  · intro i hle
    by_cases hi : i < n
    · refine (goes (ctx_ok tabU_ok 26) mixed rfl (gs := []) (gh := []) (orc := way [(25, 1)]) (stops := []) (f := 3000) (k := [.code (roundOf 0 (bodyOf Tryd.f19))]) (o := .norm) (σ := (kn (smS n i) (smH n F))) (cs := [True, True, True, (↑i : Int) < (↑n : Int), True, True, (0 : Int) ≤ (↑i : Int) ∧ (↑i : Int) < (↑n : Int), addO (0 : Nat) i < n, True, True, (0 : Int) ≤ (↑i : Int) ∧ (↑i : Int) < (↑n : Int), addO (0 : Nat) i < n, ¬(↑(F (addO (0 : Nat) (Int.toNat (Prod.snd (IntKind.i64, (↑i : Int)))))) : Int) ≠ (↑(F (addO (0 : Nat) (Int.toNat (Prod.snd (IntKind.i64, (↑i : Int)))))) : Int), True, (-9223372036854775808 : Int) ≤ (↑i : Int) + (1 : Int) ∧ (↑i : Int) + (1 : Int) < (9223372036854775808 : Int), True]) (k' := []) (o' := .norm) (S := (smS n (i + 1))) (H := (smH n F)) (by kernel_rfl) (by kernel_rfl) (by simp only [conj, and_true, true_and, addO_eq, Nat.zero_add, Int.toNat_natCast, ne_eq, not_true_eq_false, not_false_eq_true]; omega)).mono ?_
      rintro k o σ ⟨rfl, rfl, rfl⟩
      exact ⟨rfl, .inl ⟨rfl, i + 1, hi, by omega, rfl⟩⟩
    · obtain rfl : i = n := by omega
      refine (goes (ctx_ok tabU_ok 26) mixed rfl (gs := []) (gh := []) (orc := way [(14, 1)]) (stops := []) (f := 3000) (k := [.code (roundOf 0 (bodyOf Tryd.f19))]) (o := .norm) (σ := (kn (smS i i) (smH i F))) (cs := [True, True, True, ¬(↑i : Int) < (↑i : Int)]) (k' := []) (o' := (.exit 0)) (S := (smS i i)) (H := (smH i F)) (by kernel_rfl) (by kernel_rfl) (by simp [conj])).mono ?_
      rintro k o σ ⟨rfl, rfl, rfl⟩
      exact ⟨rfl, .inr ⟨by simp, rfl, rfl⟩⟩
  · rintro k o σ ⟨rfl, rfl, rfl⟩
    exact goes_ret (ctx_ok tabU_ok 26) mixed rfl (orc := way []) (stops := []) (f := 3000) (k := (restOf 0 (bodyOf Tryd.f19))) (o := .norm) (σ := (kn (smS n n) (smH n F))) (cs := [True]) (o' := .ret) (rs := Tryd.f19.results.toList) (v := (.one (B true))) (H := ([] : List (Nat × Bk))) (by kernel_rfl) (.inr rfl) (by simp [conj]) fun _ _ => rfl

theorem same_nil {w0 : Base} : Goes Tryd.prog Tryd.f19.ntmps w0 [.code (bodyOf Tryd.f19)] .norm (kn (argS 0 [.one [.nil], .one [.nil]]) [])
    (Fin (ctx tabU 26) Tryd.f19.results.toList fun v _ => v = .one (B true)) :=
  goes_ret (ctx_ok tabU_ok 26) mixed rfl (orc := way []) (stops := []) (f := 3000) (k := [.code (bodyOf Tryd.f19)]) (o := .norm) (σ := (kn (argS 0 [.one [.nil], .one [.nil]]) [])) (cs := [True, True, True, True, True, True, True, True, True, True, True, True]) (o' := .ret) (rs := Tryd.f19.results.toList) (v := (.one (B true))) (H := ([] : List (Nat × Bk))) (by kernel_rfl) (.inr rfl) (by simp [conj]) fun _ _ => rfl

theorem same_e : EOK ⟨19, 1, dcon sameK⟩ := by
  refine dcon_ok (fun a w => Tryd.call19 a w) fun args l hl p hp hc => ?_
  unfold sameK at hl
  split at hl
  · rename_i a n o n1 f b m o2 m1 g
    cases hl
    simp only [List.mem_singleton] at hp
    subst hp
    obtain ⟨rfl, rfl, rfl, h4, F, hF, hG⟩ := hc
    refine ⟨B_plain _, fun ρ w B' hargs => ?_⟩
    obtain ⟨ida, ha1, ha2, _⟩ := (hargs _ List.mem_cons_self _ List.mem_cons_self).2 _ rfl
    cases ha1
    obtain ⟨idb, hb1, hb2, _⟩ := (hargs _ (List.mem_cons_of_mem _ List.mem_cons_self) _ List.mem_cons_self).2 _ rfl
    cases hb1
    let ρ2 : Env := ⟨fun i => ρ.b (bif Nat.beq i 1000 then a else b), fun i => ρ.o (bif Nat.beq i 1000 then a else b), fun i => ρ.c (bif Nat.beq i 1000 then a else b)⟩
    have hin : InOK (base w ρ2) [.one [.sl 1000 1 0 m], .one [.sl 1001 1 0 m]] (smH m F) := by
      refine in_reads ?_ ?_
      · intro p hp
        simp only [smH, List.mem_cons, List.not_mem_nil, or_false] at hp
        rcases hp with rfl | rfl
        · exact ⟨rfl, trivial, BSim.ok (.inr ⟨_, _, _, _, _, _, rfl, rfl, row8_OK _ _, hF⟩) (read_bk ha2 rfl rfl rfl)⟩
        · exact ⟨rfl, trivial, BSim.ok (.inr ⟨_, _, _, _, _, _, rfl, rfl, row8_OK _ _, hG⟩) (read_bk hb2 rfl rfl rfl)⟩
      · intro s hs
        simp only [List.mem_cons, List.not_mem_nil, or_false] at hs
        rcases hs with rfl | rfl
        · exact one1 (.inr ⟨1000, _, rfl, rfl⟩)
        · exact one1 (.inr ⟨1001, _, rfl, rfl⟩)
    refine (calls_of (ctx_ok tabU_ok 26) Tryd.func19 (c := bodyOf Tryd.f19) rfl rfl (Nat.le_of_ble_eq_true (by kernel_rfl)) hin (same_goes h4)).mono ?_
    rintro e w' ⟨v, σ', ρ', a', rfl, rfl, hr, _⟩
    exact ⟨kept_below hr.below, rfl⟩
  · cases hl
    simp only [List.mem_singleton] at hp
    subst hp
    refine ⟨B_plain _, fun ρ w B' hargs => ?_⟩
    refine (calls_of (w0 := base w ρ) (ctx_ok tabU_ok 26) Tryd.func19 (c := bodyOf Tryd.f19) rfl rfl (args := [.one [.nil], .one [.nil]]) (Nat.le_of_ble_eq_true (by kernel_rfl)) (plain_in (base w ρ) [[.nil], [.nil]] (fun l hl a ha => by
      simp only [List.mem_cons, List.not_mem_nil, or_false, or_self] at hl
      subst hl
      simp only [List.mem_singleton] at ha
      subst ha
      trivial)) same_nil).mono ?_
    rintro e w' ⟨v, σ', ρ', a', rfl, rfl, hr, _⟩
    exact ⟨kept_below hr.below, rfl⟩
  · cases hl

theorem par_e : EOK ⟨6, 0, pcon parK⟩ := by
  refine pcon_ok (fun a w => Tryd.call6 a w) fun args l hl ha p hp hc => ?_
  unfold parK at hl
  split at hl
  · cases hl
    simp only [List.mem_singleton] at hp
    subst hp
    have hc' := hc
    simp only at hc'
    subst hc'
    refine ⟨plain2 top_pos (E_plain _), fun ρ w => ?_⟩
    refine (parse_calls w).mono ?_
    rintro e w' ⟨rfl, hb⟩
    refine ⟨hb, ?_⟩
    have h0 : V 0 = V4 0 0 0 0 := V_small (by omega)
    simp only [Sv.den, List.map_cons, List.map_nil, denL_num]
    rw [h0]; rfl
  · cases hl

theorem tH_ok : TabOK tH := .cons bytes_e (.cons same_e (.cons par_e tabU_ok))

theorem nb256 : nb 256 = 2 := by rw [nb_pos (by omega), nb_pos (by omega), nb_zero]

theorem half_row : rowC (getL [[Av.lit IntKind.u8 1], [Av.lit IntKind.u8 0]]) 2 = rowC (row8 (bys 256)) 2 := by
  have b0 : bys 256 0 = 1 := by unfold bys; rw [nb256]
  have b1 : bys 256 1 = 0 := by unfold bys; rw [nb256]
  simp [rowC, row8, b0, b1, getL, cellsL, Av.cells, Av.val]


theorem halves_owes  :
    Owes 7 [] [(True, .one (B true))] := by
  have ht := top_eq
  intro p0 hp0 hc
  simp only [List.mem_cons, List.not_mem_nil, or_false] at hp0
  subst hp0
  · have hc' : True := hc
    have hpl : (.one (B true) : Sv).all Av.plain := by ((first | refine tupP ?_ | refine oneP ?_) <;> first | (first | exact E_plain _ | exact B_plain _ | exact lit_plain _ _ | exact int_plain _ _ | exact N_plain (by omega) | exact N_plain2 (by omega) (by omega) | assumption) | ((repeat' (first | exact argsP_nil | refine argsP_cons ?_ ?_)) <;> (first | exact E_plain _ | exact B_plain _ | exact lit_plain _ _ | exact int_plain _ _ | exact N_plain (by omega) | exact N_plain2 (by omega) (by omega) | assumption)))
    refine ⟨hpl, pure_calls' (ctx_ok tH_ok 51) Tryd.func7 (c := bodyOf Tryd.f7) rfl rfl (args := []) (Nat.le_of_ble_eq_true (by kernel_rfl)) (by ((repeat' (first | exact argsP_nil | refine argsP_cons ?_ ?_)) <;> (first | exact E_plain _ | exact B_plain _ | exact lit_plain _ _ | exact int_plain _ _ | exact N_plain (by omega) | exact N_plain2 (by omega) (by omega) | assumption))) hpl (fun w0 => ?_)⟩
    exact goes_ret (ctx_ok tH_ok 51) mixed rfl (orc := way []) (stops := []) (f := 3000) (k := [.code (bodyOf Tryd.f7)]) (o := .norm) (σ := (kn (argS 0 ([].map .one)) [])) (cs := [True, (0 : Int) ≤ (7 : Int) ∧ (7 : Int) < (18446744073709551616 : Int), (0 : Int) ≤ (3 : Int) ∧ (3 : Int) < (18446744073709551616 : Int), (0 : Int) ≤ (2 : Int) ∧ (2 : Int) < (18446744073709551616 : Int), (0 : Nat) < 2 ∧ 7 * 3 / 2 < TOP, True, True, True, True, True, True, (0 : Int) ≤ (7 : Int) ∧ (7 : Int) < (18446744073709551616 : Int), (0 : Int) ≤ (3 : Int) ∧ (3 : Int) < (18446744073709551616 : Int), (0 : Int) ≤ (2 : Int) ∧ (2 : Int) < (18446744073709551616 : Int), (0 : Nat) < 2 ∧ up (7 * 3) (2) < TOP, True, True, True, True, True, True, (ByteArray.mk #[(48 : UInt8), (48 : UInt8), (55 : UInt8)]) = (ByteArray.mk #[(48 : UInt8), (48 : UInt8), (55 : UInt8)]), True, True, True, True, True, True, True, True, 7 * 3 / 2 = 10, True, True, True, True, True, True, True, up (7 * 3) (2) = 11, True, True, True, True, True, True, (0 : Int) ≤ (256 : Int) ∧ (256 : Int) < (18446744073709551616 : Int), (0 : Nat) < 256, True, nb (256) = nb (256) ∧ (2 : Nat) = nb (256) ∧ (2 : Nat) = nb (256) ∧ nb (256) < (64 : Nat) ∧ ∃ F, rowC (row8 (bys (Int.toNat (256 : Int)))) (nb (Int.toNat (256 : Int))) = rowC (row8 F) (nb (Int.toNat (256 : Int))) ∧ rowC (getL ((fun ls => [Av.lit IntKind.u8 (1 : Int)] :: ls) ((fun ls => [Av.lit IntKind.u8 (0 : Int)] :: ls) []))) (nb (Int.toNat (256 : Int))) = rowC (row8 F) (nb (Int.toNat (256 : Int))), True, True, True, True, True, True]) (o' := .ret) (rs := Tryd.f7.results.toList) (v := (.one (B true))) (H := ([] : List (Nat × Bk))) (by kernel_rfl) (.inr rfl) (by simp [conj, nb256, up]; refine ⟨by omega, by omega, bys 256, rfl, half_row⟩) fun _ _ => rfl

end M
end Go.Proofs.YtmjdmhelmgcanaaDoor

/- r01.Parse. -/
namespace Go.Proofs.YtmjdmhelmgcanaaDoor
namespace M
open Go.RowKit
set_option linter.unusedSimpArgs false
set_option linter.unusedVariables false

/-- the number that the first i signs of a text are -/
def dv (s : ByteArray) : Nat → Nat
  | 0 => 0
  | i + 1 => dv s i * 10 + (byteAt s i - 48)
def dig1 (s : ByteArray) (i : Nat) : Prop := 48 ≤ byteAt s i ∧ byteAt s i ≤ 57
/-- is it a number's text? -/
def frm (s : ByteArray) : Prop := 0 < s.size ∧ ¬ (1 < s.size ∧ byteAt s 0 = 48) ∧ ∀ i, i < s.size → dig1 s i
def tP : List Entry := eROf :: eCarry :: tH
def paS (s : ByteArray) (i : Nat) : List (Nat × Sv) := [(0, .one [.str s]), (2, .one [.ptr 2 0]), (3, .one [.lit .i64 0]), (4, .one [.int .i64 (i : Nat)])]
def paH : List (Nat × Bk) := [(2, .var [.big 4 0] 24)]
def paR (e : Int) : List (Nat × Sv) := [(2, .one [.ptr 2 0]), (3, .one [.lit .i64 e])]
def pbS (s : ByteArray) (i : Nat) : List (Nat × Sv) := [(0, .one [.str s]), (2, .one [.ptr 2 0]), (3, .one [.lit .i64 0]), (5, .one [.ptr 5 0]), (6, .one [.int .i64 (i : Nat)])]
def pbH (x : Nat) : List (Nat × Bk) := [(2, .var [.big 4 0] 24), (5, .var [.big 4 x] 24)]
def mG (F : Nat → Nat) (k : Nat) : Nat → Nat := fun j => bif Nat.blt j k then F j * 10 else F j
/-- the digits with a sign more, as the machine has them -/
def pF (G : Nat → Nat) (c : Nat) : Nat → List Av := upd (rowN G) 0 [.int .u64 (((G 0 : Nat) : Int) + ((c : Nat) - 48 : Int))]
def pX (G : Nat → Nat) (c : Nat) : Nat := num (rd (rowN (dg (num (rd (pF G c)) 16)))) 17
def pcS (s : ByteArray) (i k : Nat) : List (Nat × Sv) := pbS s i ++ [(7, .one [.sl 53 1 0 16]), (8, .one [.int .i64 (k : Nat)])]
def pcH (x : Nat) (G : Nat → Nat) : List (Nat × Bk) := pbH x ++ [(53, .row true 22 1 16 (rowN G))]

theorem tP_ok : TabOK tP := .cons rof_e (.cons carry_e tH_ok)

theorem num_mul (F : Nat → Nat) (c : Nat) : ∀ n, num (fun i => F i * c) n = num F n * c
  | 0 => by simp [num]
  | n + 1 => by
    show num (fun i => F i * c) n + F n * c * 65536 ^ n = (num F n + F n * 65536 ^ n) * c
    rw [num_mul F c n, Nat.add_mul, Nat.mul_right_comm]

theorem ps_mul {w0 : Base} {s : ByteArray} {i k x : Nat} {G : Nat → Nat} (hk : k < 16) (hG : G k < 65536) :
    Goes Tryd.prog Tryd.f9.ntmps w0 [.code (roundOf 4 (roundOf 2 (bodyOf Tryd.f9)))] .norm (kn (pcS s i k) (pcH x G)) fun k' o σ => k' = [] ∧ o = .norm ∧ σ = kn (pcS s i (k + 1)) (pcH x (upd G k (G k * 10))) := by
  refine Goes.mono (goes (ctx_ok tP_ok 85) mixed rfl (gs := []) (gh := []) (orc := way []) (stops := []) (f := 3000) (k := [.code (roundOf 4 (roundOf 2 (bodyOf Tryd.f9)))]) (o := .norm) (σ := (kn (pcS s i k) (pcH x G))) (cs := [True, (↑k : Int) < (16 : Int), True, True, (0 : Int) ≤ (↑k : Int) ∧ (↑k : Int) < (↑(16 : Nat) : Int), addO (0 : Nat) k < (16 : Nat), (0 : Int) ≤ (↑(G (addO (0 : Nat) (Int.toNat (Prod.snd (IntKind.i64, (↑k : Int)))))) : Int) * (10 : Int) ∧ (↑(G (addO (0 : Nat) (Int.toNat (Prod.snd (IntKind.i64, (↑k : Int)))))) : Int) * (10 : Int) < (18446744073709551616 : Int), (0 : Int) ≤ (↑k : Int) ∧ (↑k : Int) < (↑(16 : Nat) : Int), addO (0 : Nat) k < (16 : Nat), True, (-9223372036854775808 : Int) ≤ (↑k : Int) + (1 : Int) ∧ (↑k : Int) + (1 : Int) < (9223372036854775808 : Int), True]) (k' := []) (o' := .norm) (S := (pcS s i (k + 1))) (H := (pbH x ++ [(53, .row true 22 1 16 (upd (rowN G) k [.int .u64 ((G k : Nat) * 10)]))])) (by kernel_rfl) (by kernel_rfl) (by simp only [conj, and_true, true_and, addO_eq, Nat.zero_add, Int.toNat_natCast]; omega)) ?_
  rintro k' o σ ⟨rfl, rfl, rfl⟩
  exact ⟨rfl, rfl, by rw [show ((G k : Nat) : Int) * 10 = ((G k * 10 : Nat) : Int) by omega, upd_rowN]; rfl⟩

theorem ps_ok {w0 : Base} {s : ByteArray} {i x : Nat} {G : Nat → Nat} (hi : i < s.size) (hs : s.size < 1000) (hd : dig1 s i) (hG : G 0 < 655360) (h1 : digs (pF G (byteAt s i)) 16 655360) (h2 : digs (rowN (dg (num (rd (pF G (byteAt s i))) 16))) 17 65536) (h3 : pX G (byteAt s i) < TOP) :
    Goes Tryd.prog Tryd.f9.ntmps w0 (restOf 4 (roundOf 2 (bodyOf Tryd.f9))) .norm (kn (pcS s i 16) (pcH x G)) fun k' o σ => k' = [] ∧ o = .norm ∧ σ = kn (pbS s (i + 1)) (pbH (pX G (byteAt s i))) := by
  obtain ⟨d1, d2⟩ := hd
  have hG0 : (0 : Int) ≤ ((G 0 : Nat) : Int) + (((byteAt s i : Nat) : Int) - 48) ∧ ((G 0 : Nat) : Int) + (((byteAt s i : Nat) : Int) - 48) < 18446744073709551616 := by omega
  exact goes (ctx_ok tP_ok 85) mixed rfl (gs := []) (gh := []) (orc := way []) (stops := []) (f := 3000) (k := (restOf 4 (roundOf 2 (bodyOf Tryd.f9)))) (o := .norm) (σ := (kn (pcS s i 16) (pcH x G))) (cs := [True, (0 : Int) ≤ (0 : Int) ∧ (0 : Int) < (↑(16 : Nat) : Int), addO (0 : Nat) (0) < (16 : Nat), True, True, (0 : Int) ≤ (↑i : Int) ∧ (↑i : Int) < (↑(ByteArray.size s) : Int), (0 : Int) ≤ (↑(byteAt s i) : Int) - (48 : Int) ∧ (↑(byteAt s i) : Int) - (48 : Int) < (256 : Int), (0 : Int) ≤ (↑(byteAt s i) : Int) - (48 : Int) ∧ (↑(byteAt s i) : Int) - (48 : Int) < (18446744073709551616 : Int), (0 : Int) ≤ (↑(G (addO (0 : Nat) (Int.toNat (Prod.snd (IntKind.i64, (0 : Int)))))) : Int) + ((↑(byteAt s i) : Int) - (48 : Int)) ∧ (↑(G (addO (0 : Nat) (Int.toNat (Prod.snd (IntKind.i64, (0 : Int)))))) : Int) + ((↑(byteAt s i) : Int) - (48 : Int)) < (18446744073709551616 : Int), (0 : Int) ≤ (0 : Int) ∧ (0 : Int) < (↑(16 : Nat) : Int), addO (0 : Nat) (0) < (16 : Nat), True, (16 : Nat) = (16 : Nat) ∧ (16 : Nat) = (16 : Nat) ∧ digs (upd (rowN G) (addO (0 : Nat) (0)) ([] ++ ([Av.int IntKind.u64 ((↑(G (addO (0 : Nat) (Int.toNat (Prod.snd (IntKind.i64, (0 : Int)))))) : Int) + ((↑(byteAt s i) : Int) - (48 : Int)))] ++ []))) (16 : Nat) (655360 : Nat), (17 : Nat) = (17 : Nat) ∧ (16 : Nat) ≤ (17 : Nat) ∧ (17 : Nat) < (64 : Nat) ∧ digs (rowN (dg (num (rd (upd (rowN G) (addO (0 : Nat) (0)) ([] ++ ([Av.int IntKind.u64 ((↑(G (addO (0 : Nat) (Int.toNat (Prod.snd (IntKind.i64, (0 : Int)))))) : Int) + ((↑(byteAt s i) : Int) - (48 : Int)))] ++ [])))) (16 : Nat)))) (17 : Nat) (65536 : Nat) ∧ num (rd (rowN (dg (num (rd (upd (rowN G) (addO (0 : Nat) (0)) ([] ++ ([Av.int IntKind.u64 ((↑(G (addO (0 : Nat) (Int.toNat (Prod.snd (IntKind.i64, (0 : Int)))))) : Int) + ((↑(byteAt s i) : Int) - (48 : Int)))] ++ [])))) (16 : Nat))))) (17 : Nat) < TOP, True, True, True, True, True, True, True, True, True, True, True, (-9223372036854775808 : Int) ≤ (↑i : Int) + (1 : Int) ∧ (↑i : Int) + (1 : Int) < (9223372036854775808 : Int), True]) (k' := []) (o' := .norm) (S := (pbS s (i + 1))) (H := (pbH (pX G (byteAt s i)))) (by kernel_rfl) (by kernel_rfl) (by simp only [conj]; (repeat' apply And.intro) <;> first | trivial | exact h1 | exact h2 | exact h3 | exact hG0 | (simp [addO_eq]; done) | omega | (simp [addO_eq]; omega))

theorem ps_over {w0 : Base} {s : ByteArray} {i x : Nat} {G : Nat → Nat} (hi : i < s.size) (hs : s.size < 1000) (hd : dig1 s i) (hG : G 0 < 655360) (h1 : digs (pF G (byteAt s i)) 16 655360) (h2 : digs (rowN (dg (num (rd (pF G (byteAt s i))) 16))) 17 65536) (h3 : TOP ≤ pX G (byteAt s i)) :
    Goes Tryd.prog Tryd.f9.ntmps w0 (restOf 4 (roundOf 2 (bodyOf Tryd.f9))) .norm (kn (pcS s i 16) (pcH x G)) fun k' o σ => k' = [] ∧ o = .ret ∧ σ = kn (paR 2) paH := by
  obtain ⟨d1, d2⟩ := hd
  have hG0 : (0 : Int) ≤ ((G 0 : Nat) : Int) + (((byteAt s i : Nat) : Int) - 48) ∧ ((G 0 : Nat) : Int) + (((byteAt s i : Nat) : Int) - 48) < 18446744073709551616 := by omega
  exact goes (ctx_ok tP_ok 85) mixed rfl (gs := []) (gh := []) (orc := way [(77, 1)]) (stops := []) (f := 3000) (k := (restOf 4 (roundOf 2 (bodyOf Tryd.f9)))) (o := .norm) (σ := (kn (pcS s i 16) (pcH x G))) (cs := [True, (0 : Int) ≤ (0 : Int) ∧ (0 : Int) < (↑(16 : Nat) : Int), addO (0 : Nat) (0) < (16 : Nat), True, True, (0 : Int) ≤ (↑i : Int) ∧ (↑i : Int) < (↑(ByteArray.size s) : Int), (0 : Int) ≤ (↑(byteAt s i) : Int) - (48 : Int) ∧ (↑(byteAt s i) : Int) - (48 : Int) < (256 : Int), (0 : Int) ≤ (↑(byteAt s i) : Int) - (48 : Int) ∧ (↑(byteAt s i) : Int) - (48 : Int) < (18446744073709551616 : Int), (0 : Int) ≤ (↑(G (addO (0 : Nat) (Int.toNat (Prod.snd (IntKind.i64, (0 : Int)))))) : Int) + ((↑(byteAt s i) : Int) - (48 : Int)) ∧ (↑(G (addO (0 : Nat) (Int.toNat (Prod.snd (IntKind.i64, (0 : Int)))))) : Int) + ((↑(byteAt s i) : Int) - (48 : Int)) < (18446744073709551616 : Int), (0 : Int) ≤ (0 : Int) ∧ (0 : Int) < (↑(16 : Nat) : Int), addO (0 : Nat) (0) < (16 : Nat), True, (16 : Nat) = (16 : Nat) ∧ (16 : Nat) = (16 : Nat) ∧ digs (upd (rowN G) (addO (0 : Nat) (0)) ([] ++ ([Av.int IntKind.u64 ((↑(G (addO (0 : Nat) (Int.toNat (Prod.snd (IntKind.i64, (0 : Int)))))) : Int) + ((↑(byteAt s i) : Int) - (48 : Int)))] ++ []))) (16 : Nat) (655360 : Nat), (17 : Nat) = (17 : Nat) ∧ (16 : Nat) ≤ (17 : Nat) ∧ (17 : Nat) < (64 : Nat) ∧ digs (rowN (dg (num (rd (upd (rowN G) (addO (0 : Nat) (0)) ([] ++ ([Av.int IntKind.u64 ((↑(G (addO (0 : Nat) (Int.toNat (Prod.snd (IntKind.i64, (0 : Int)))))) : Int) + ((↑(byteAt s i) : Int) - (48 : Int)))] ++ [])))) (16 : Nat)))) (17 : Nat) (65536 : Nat) ∧ TOP ≤ num (rd (rowN (dg (num (rd (upd (rowN G) (addO (0 : Nat) (0)) ([] ++ ([Av.int IntKind.u64 ((↑(G (addO (0 : Nat) (Int.toNat (Prod.snd (IntKind.i64, (0 : Int)))))) : Int) + ((↑(byteAt s i) : Int) - (48 : Int)))] ++ [])))) (16 : Nat))))) (17 : Nat), True, True, True, True, True, True, True, True, True, True, True]) (k' := []) (o' := .ret) (S := (paR 2)) (H := paH) (by kernel_rfl) (by kernel_rfl) (by simp only [conj]; (repeat' apply And.intro) <;> first | trivial | exact h1 | exact h2 | exact h3 | exact hG0 | (simp [addO_eq]; done) | omega | (simp [addO_eq]; omega))

theorem mG_zero (F : Nat → Nat) : mG F 0 = F := rfl
theorem mG_step (F : Nat → Nat) (k : Nat) : upd (mG F k) k (mG F k k * 10) = mG F (k + 1) := by
  funext j
  have hk : mG F k k = F k := by
    unfold mG
    cases h : Nat.blt k k with
    | true => exact absurd (Nat.le_of_ble_eq_true h) (Nat.not_succ_le_self k)
    | false => rfl
  by_cases e : j = k
  · subst e
    rw [upd_same, hk]
    unfold mG
    rw [show Nat.blt j (j + 1) = true from Nat.ble_eq_true_of_le (Nat.le_refl _)]; rfl
  · rw [upd_ne _ _ e]
    unfold mG
    by_cases h : j < k
    · rw [show Nat.blt j k = true from Nat.ble_eq_true_of_le h, show Nat.blt j (k + 1) = true from Nat.ble_eq_true_of_le (Nat.le_succ_of_le h)]
    · have a1 : Nat.blt j k = false := by
        cases h' : Nat.blt j k with
        | true => exact absurd (Nat.le_of_ble_eq_true h') h
        | false => rfl
      have a2 : Nat.blt j (k + 1) = false := by
        cases h' : Nat.blt j (k + 1) with
        | true => exact absurd (Nat.le_of_ble_eq_true h') (by show ¬ j + 1 ≤ k + 1; omega)
        | false => rfl
      rw [a1, a2]

theorem ps_start {w0 : Base} {s : ByteArray} {i x : Nat} (hi : i < s.size) (hs : s.size < 1000) (hx : x < TOP) :
    Goes Tryd.prog Tryd.f9.ntmps w0 [.code (roundOf 2 (bodyOf Tryd.f9))] .norm (kn (pbS s i) (pbH x)) fun k' o σ => k' = restOf 4 (roundOf 2 (bodyOf Tryd.f9)) ∧ o = .norm ∧ σ = kn (pcS s i 16) (pcH x (mG (dg x) 16)) := by
  refine (goes (ctx_ok tP_ok 85) mixed rfl (gs := [8]) (gh := []) (orc := way []) (stops := [4]) (f := 3000) (k := [.code (roundOf 2 (bodyOf Tryd.f9))]) (o := .norm) (σ := (kn (pbS s i) (pbH x))) (cs := [True, True, True, (↑i : Int) < (↑(ByteArray.size s) : Int), True, True, True, True]) (k' := (kOf 4 (roundOf 2 (bodyOf Tryd.f9)))) (o' := .norm) (S := (pcS s i 0)) (H := (pcH x (dg x))) (by kernel_rfl) (by kernel_rfl) (by simp only [conj]; (repeat' apply And.intro) <;> first | trivial | omega)).bind ?_
  rintro k o σ ⟨rfl, rfl, rfl⟩
  have hk : kOf 4 (roundOf 2 (bodyOf Tryd.f9)) = .code (.block 4 (.loop (roundOf 4 (roundOf 2 (bodyOf Tryd.f9))))) :: restOf 4 (roundOf 2 (bodyOf Tryd.f9)) := by kernel_rfl
  rw [hk]
  refine (goes_loop (fun k : Nat => kn (pcS s i k) (pcH x (mG (dg x) k))) (fun k => k ≤ 16) (fun k => 16 - k) (fun o σ => o = .norm ∧ σ = kn (pcS s i 16) (pcH x (mG (dg x) 16))) ?_ (p := 0) (by omega)).mono ?_
  · intro k hk16
    by_cases hk : k < 16
    · have hd : mG (dg x) k k < 65536 := by
        have e : mG (dg x) k k = dg x k := by
          unfold mG
          cases h : Nat.blt k k with
          | true => exact absurd (Nat.le_of_ble_eq_true h) (Nat.not_succ_le_self k)
          | false => rfl
        rw [e]; exact dg_lt x k
      refine (ps_mul hk hd).mono ?_
      rintro k' o σ ⟨rfl, rfl, rfl⟩
      exact ⟨rfl, .inl ⟨rfl, k + 1, hk, by omega, by rw [mG_step]⟩⟩
    · obtain rfl : k = 16 := by omega
      refine (goes (ctx_ok tP_ok 85) mixed rfl (gs := []) (gh := []) (orc := way [(55, 1)]) (stops := []) (f := 3000) (k := [.code (roundOf 4 (roundOf 2 (bodyOf Tryd.f9)))]) (o := .norm) (σ := (kn (pcS s i 16) (pcH x (mG (dg x) 16)))) (cs := [True, ¬(↑(16 : Nat) : Int) < (16 : Int)]) (k' := []) (o' := (.exit 4)) (S := (pcS s i 16)) (H := (pcH x (mG (dg x) 16))) (by kernel_rfl) (by kernel_rfl) (by simp [conj])).mono ?_
      rintro k o σ ⟨rfl, rfl, rfl⟩
      exact ⟨rfl, .inr ⟨by simp, rfl, rfl⟩⟩
  · rintro k o σ ⟨rfl, rfl, rfl⟩
    exact ⟨rfl, rfl, rfl⟩

theorem pF_rowN (G : Nat → Nat) {c : Nat} (hc : 48 ≤ c) : pF G c = rowN (upd G 0 (G 0 + (c - 48))) := by
  unfold pF
  rw [show ((G 0 : Nat) : Int) + ((c : Nat) - 48 : Int) = ((G 0 + (c - 48) : Nat) : Int) by omega, upd_rowN]

theorem mG_16 (x : Nat) : num (mG (dg x) 16) 16 = num (dg x) 16 * 10 := by
  rw [← num_mul]
  refine num_congr fun j hj => ?_
  unfold mG
  rw [show Nat.blt j 16 = true from Nat.ble_eq_true_of_le hj]; rfl

theorem pX_eq {x c : Nat} (hx : x < TOP) (h1 : 48 ≤ c) (h2 : c ≤ 57) : num (rd (pF (mG (dg x) 16) c)) 16 = x * 10 + (c - 48) ∧ pX (mG (dg x) 16) c = x * 10 + (c - 48) ∧ digs (pF (mG (dg x) 16) c) 16 655360 := by
  have e0 : num (upd (mG (dg x) 16) 0 (mG (dg x) 16 0 + (c - 48))) 16 = x * 10 + (c - 48) := by
    have e1 := num_upd (mG (dg x) 16) (j := 0) (u := mG (dg x) 16 0 + (c - 48)) (k := 16) (by omega)
    have e2 := mG_16 x
    rw [num_dg16 hx] at e2
    rw [Nat.pow_zero, Nat.mul_one, Nat.mul_one] at e1
    omega
  have e3 : num (rd (pF (mG (dg x) 16) c)) 16 = x * 10 + (c - 48) := by rw [pF_rowN _ h1, rd_rowN, e0]
  refine ⟨e3, ?_, ?_⟩
  · unfold pX
    rw [e3, rd_rowN, num_dg]
    refine Nat.mod_eq_of_lt ?_
    have e4 : (65536 : Nat) ^ 17 = 65536 * TOP := by rw [top_eq]
    rw [e4]
    have := top_eq
    omega
  · rw [pF_rowN _ h1]
    refine digs_rowN fun j hj => ?_
    have hm : ∀ j, mG (dg x) 16 j < 655351 := fun j => by
      unfold mG
      have := dg_lt x j
      cases Nat.blt j 16
      · show dg x j < _; omega
      · show dg x j * 10 < _; omega
    by_cases e : j = 0
    · subst e; rw [upd_same]; have := hm 0; omega
    · rw [upd_ne _ _ e]; have := hm j; omega

theorem ps_round {w0 : Base} {s : ByteArray} {i : Nat} (hi : i < s.size) (hs : s.size < 1000) (hd : dig1 s i) (hx : dv s i < TOP) :
    Goes Tryd.prog Tryd.f9.ntmps w0 [.code (roundOf 2 (bodyOf Tryd.f9))] .norm (kn (pbS s i) (pbH (dv s i))) fun k' o σ => k' = [] ∧
      ((o = .norm ∧ dv s (i + 1) < TOP ∧ σ = kn (pbS s (i + 1)) (pbH (dv s (i + 1)))) ∨ (o = .ret ∧ TOP ≤ dv s (i + 1) ∧ σ = kn (paR 2) paH)) := by
  obtain ⟨e1, e2, e3⟩ := pX_eq hx hd.1 hd.2
  have hG : mG (dg (dv s i)) 16 0 < 655360 := by
    have := dg_lt (dv s i) 0
    show dg (dv s i) 0 * 10 < _
    omega
  refine (ps_start hi hs hx).bind ?_
  rintro k o σ ⟨rfl, rfl, rfl⟩
  by_cases h : dv s (i + 1) < TOP
  · refine (ps_ok hi hs hd hG e3 (digs_rowN fun j _ => dg_lt _ j) (by rw [e2]; exact h)).mono ?_
    rintro k o σ ⟨rfl, rfl, rfl⟩
    rw [e2]
    exact ⟨rfl, .inl ⟨rfl, h, rfl⟩⟩
  · refine (ps_over hi hs hd hG e3 (digs_rowN fun j _ => dg_lt _ j) (by rw [e2]; exact Nat.not_lt.1 h)).mono ?_
    rintro k o σ ⟨rfl, rfl, rfl⟩
    exact ⟨rfl, .inr ⟨rfl, Nat.not_lt.1 h, rfl⟩⟩

theorem dv_mono (s : ByteArray) (i : Nat) : ∀ n, dv s i ≤ dv s (i + n)
  | 0 => Nat.le_refl _
  | n + 1 => Nat.le_trans (dv_mono s i n) (by show _ ≤ dv s (i + n) * 10 + _; omega)

end M
end Go.Proofs.YtmjdmhelmgcanaaDoor

/- r01.Text: a round. -/
namespace Go.Proofs.YtmjdmhelmgcanaaDoor
namespace M
open Go.RowKit
set_option linter.unusedSimpArgs false
set_option linter.unusedVariables false

def rtS (t : ByteArray) : List (Nat × Sv) := [(1, .one [.ptr 1 0]), (3, .one [.str t])]
def rtH (x : Nat) : List (Nat × Bk) := [(1, .var [.big 4 x] 24)]
def ruS (t : ByteArray) (r : Nat) (i : Int) : List (Nat × Sv) := rtS t ++ [(4, .one [.sl 9 1 0 16]), (5, .one [.int .u64 (r : Nat)]), (6, .one [.int .i64 i])]
def ruH (x : Nat) (G : Nat → Nat) : List (Nat × Bk) := rtH x ++ [(9, .row true 22 1 16 (rowN G))]
/-- a digit's sign -/
def sgn (r : Nat) : ByteArray := ⟨#[UInt8.ofNat (48 + r)]⟩
/-- a number's text, ahead of a text -/
def txt : Nat → Nat → ByteArray → ByteArray
  | 0, _, t => t
  | f + 1, x, t => if x / 10 = 0 then sgn (x % 10) ++ t else txt f (x / 10) (sgn (x % 10) ++ t)

theorem rt_div {w0 : Base} {t : ByteArray} {x r m : Nat} {G : Nat → Nat} (hm : m < 16) (hr : r < 10) (hG : G m < 65536) :
    Goes Tryd.prog Tryd.f8.ntmps w0 [.code (roundOf 2 (roundOf 0 (bodyOf Tryd.f8)))] .norm (kn (ruS t r (m : Int)) (ruH x G)) fun k o σ => k = [] ∧ o = .norm ∧
      σ = kn (ruS t ((r * 65536 + G m) % 10) ((m : Int) - 1)) (ruH x (upd G m ((r * 65536 + G m) / 10))) := by
  refine Goes.mono (goes (ctx_ok tP_ok 43) mixed rfl (gs := []) (gh := []) (orc := way []) (stops := []) (f := 3000) (k := [.code (roundOf 2 (roundOf 0 (bodyOf Tryd.f8)))]) (o := .norm) (σ := (kn (ruS t r (m : Int)) (ruH x G))) (cs := [True, (0 : Int) ≤ (↑m : Int), True, (0 : Int) ≤ (↑r : Int) * (65536 : Int) ∧ (↑r : Int) * (65536 : Int) < (18446744073709551616 : Int), True, True, (0 : Int) ≤ (↑m : Int) ∧ (↑m : Int) < (↑(16 : Nat) : Int), addO (0 : Nat) m < (16 : Nat), (0 : Int) ≤ (↑r : Int) * (65536 : Int) + (↑(G (addO (0 : Nat) (Int.toNat (Prod.snd (IntKind.i64, (↑m : Int)))))) : Int) ∧ (↑r : Int) * (65536 : Int) + (↑(G (addO (0 : Nat) (Int.toNat (Prod.snd (IntKind.i64, (↑m : Int)))))) : Int) < (18446744073709551616 : Int), True, True, True, True, (0 : Int) ≤ (↑r : Int) * (65536 : Int) + (↑(G (addO (0 : Nat) (Int.toNat (Prod.snd (IntKind.i64, (↑m : Int)))))) : Int) ∧ (0 : Int) ≤ ((↑r : Int) * (65536 : Int) + (↑(G (addO (0 : Nat) (Int.toNat (Prod.snd (IntKind.i64, (↑m : Int)))))) : Int)) / (10 : Int) ∧ ((↑r : Int) * (65536 : Int) + (↑(G (addO (0 : Nat) (Int.toNat (Prod.snd (IntKind.i64, (↑m : Int)))))) : Int)) / (10 : Int) < (18446744073709551616 : Int), (0 : Int) ≤ (↑m : Int) ∧ (↑m : Int) < (↑(16 : Nat) : Int), addO (0 : Nat) m < (16 : Nat), True, (0 : Int) ≤ (↑r : Int) * (65536 : Int) + (↑(G (addO (0 : Nat) (Int.toNat (Prod.snd (IntKind.i64, (↑m : Int)))))) : Int), True, True, (-9223372036854775808 : Int) ≤ (↑m : Int) - (1 : Int) ∧ (↑m : Int) - (1 : Int) < (9223372036854775808 : Int), True]) (k' := []) (o' := .norm) (S := (ruS t ((r * 65536 + G m) % 10) ((m : Int) - 1))) (H := (rtH x ++ [(9, .row true 22 1 16 (upd (rowN G) m [.int .u64 (((r * 65536 + G m) / 10 : Nat) : Int)]))])) (by kernel_rfl) (by kernel_rfl) (by simp only [conj, and_true, true_and, addO_eq, Nat.zero_add, Int.toNat_natCast]; omega)) ?_
  rintro k o σ ⟨rfl, rfl, rfl⟩
  exact ⟨rfl, rfl, by rw [upd_rowN]; rfl⟩

/-- what is carried down -/
def rtI (x k r : Nat) (G : Nat → Nat) : Prop := k ≤ 16 ∧ r < 10 ∧ (∀ j, j < k → G j = dg x j) ∧ (∀ j, G j < 65536) ∧ x + 9 * num (dg x) k = 10 * num G 16 + r * 65536 ^ k

theorem rtI_step {x m r : Nat} {G : Nat → Nat} (h : rtI x (m + 1) r G) : rtI x m ((r * 65536 + G m) % 10) (upd G m ((r * 65536 + G m) / 10)) := by
  obtain ⟨h1, h2, h3, h4, h5⟩ := h
  have e0 := h3 m (Nat.lt_succ_self m)
  have hb := h4 m
  refine ⟨by omega, Nat.mod_lt _ (by omega), fun j hj => by rw [upd_ne _ _ (by omega)]; exact h3 j (by omega), fun j => ?_, ?_⟩
  · by_cases e : j = m
    · subst e; rw [upd_same]; omega
    · rw [upd_ne _ _ e]; exact h4 j
  · have e1 := num_upd G (j := m) (u := (r * 65536 + G m) / 10) (k := 16) (by omega)
    have e2 : num (dg x) (m + 1) = num (dg x) m + dg x m * 65536 ^ m := rfl
    have e3 : r * 65536 ^ (m + 1) = r * 65536 * 65536 ^ m := by rw [Nat.pow_succ]; ac_rfl
    have e4 : r * 65536 * 65536 ^ m + G m * 65536 ^ m = 10 * ((r * 65536 + G m) / 10 * 65536 ^ m) + (r * 65536 + G m) % 10 * 65536 ^ m := by
      rw [← Nat.add_mul, ← Nat.mul_assoc, ← Nat.add_mul, Nat.div_add_mod]
    rw [e2, e3] at h5
    rw [e0] at e1 e4 ⊢
    generalize hA : (r * 65536 + dg x m) / 10 * 65536 ^ m = A at e1 e4
    generalize hB : dg x m * 65536 ^ m = B at e1 e4 h5
    omega

theorem rt_start {w0 : Base} {t : ByteArray} {x : Nat} (hx : x < TOP) :
    Goes Tryd.prog Tryd.f8.ntmps w0 [.code (roundOf 0 (bodyOf Tryd.f8))] .norm (kn (rtS t) (rtH x)) fun k o σ => k = restOf 2 (roundOf 0 (bodyOf Tryd.f8)) ∧ o = .norm ∧
      ∃ r G, rtI x 0 r G ∧ σ = kn (ruS t r (-1)) (ruH x G) := by
  refine (goes (ctx_ok tP_ok 43) mixed rfl (gs := [5, 6]) (gh := []) (orc := way []) (stops := [2]) (f := 3000) (k := [.code (roundOf 0 (bodyOf Tryd.f8))]) (o := .norm) (σ := (kn (rtS t) (rtH x))) (cs := [True, True, True, True, True]) (k' := (kOf 2 (roundOf 0 (bodyOf Tryd.f8)))) (o' := .norm) (S := (ruS t 0 15)) (H := (ruH x (dg x))) (by kernel_rfl) (by kernel_rfl) (by simp only [conj] <;> (repeat' apply And.intro) <;> first | trivial | assumption | omega | (simp [addO_eq]; done) | (simp [addO_eq]; omega))).bind ?_
  rintro k o σ ⟨rfl, rfl, rfl⟩
  have hk : kOf 2 (roundOf 0 (bodyOf Tryd.f8)) = .code (.block 2 (.loop (roundOf 2 (roundOf 0 (bodyOf Tryd.f8))))) :: restOf 2 (roundOf 0 (bodyOf Tryd.f8)) := by kernel_rfl
  rw [hk]
  refine (goes_loop (fun p : Nat × Nat × (Nat → Nat) => kn (ruS t p.2.1 ((p.1 : Int) - 1)) (ruH x p.2.2)) (fun p => rtI x p.1 p.2.1 p.2.2) (fun p => p.1)
    (fun o σ => o = .norm ∧ ∃ r G, rtI x 0 r G ∧ σ = kn (ruS t r (-1)) (ruH x G)) ?_ (p := (16, 0, dg x)) ⟨Nat.le_refl _, by show 0 < 10; omega, fun _ _ => rfl, fun j => dg_lt x j, by
      show x + 9 * num (dg x) 16 = 10 * num (dg x) 16 + 0 * 65536 ^ 16
      rw [num_dg16 hx, Nat.zero_mul]; omega⟩).mono ?_
  · rintro ⟨k, r, G⟩ hI
    match k, hI with
    | 0, hI =>
      refine (goes (ctx_ok tP_ok 43) mixed rfl (gs := []) (gh := []) (orc := way [(11, 1)]) (stops := []) (f := 3000) (k := [.code (roundOf 2 (roundOf 0 (bodyOf Tryd.f8)))]) (o := .norm) (σ := (kn (ruS t r (-1)) (ruH x G))) (cs := [True, ¬(0 : Int) ≤ (-1 : Int)]) (k' := []) (o' := (.exit 2)) (S := (ruS t r (-1))) (H := (ruH x G)) (by kernel_rfl) (by kernel_rfl) (by simp [conj])).mono ?_
      rintro k o σ ⟨rfl, rfl, rfl⟩
      exact ⟨rfl, .inr ⟨by simp, rfl, r, G, hI, rfl⟩⟩
    | m + 1, hI =>
      have e : (((m + 1 : Nat) : Int) - 1) = (m : Int) := by omega
      simp only [e]
      refine (rt_div (Nat.lt_of_succ_le hI.1) hI.2.1 (hI.2.2.2.1 m)).mono ?_
      rintro k o σ ⟨rfl, rfl, rfl⟩
      exact ⟨rfl, .inl ⟨rfl, (m, (r * 65536 + G m) % 10, upd G m ((r * 65536 + G m) / 10)), rtI_step hI, Nat.lt_succ_self m, rfl⟩⟩
  · rintro k o σ ⟨rfl, rfl, r, G, hI, rfl⟩
    exact ⟨rfl, rfl, r, G, hI, rfl⟩

theorem rtI_end {x r : Nat} {G : Nat → Nat} (h : rtI x 0 r G) : num G 16 = x / 10 ∧ r = x % 10 ∧ ∀ j, G j < 65536 := by
  obtain ⟨_, h2, _, h4, h5⟩ := h
  have e : num (dg x) 0 = 0 := rfl
  rw [e, Nat.pow_zero] at h5
  exact ⟨by omega, by omega, h4⟩

theorem rt_more {w0 : Base} {t : ByteArray} {x r : Nat} {G : Nat → Nat} (ht : t.size < 1000) (hr : r < 10) (hd : digs (rowN G) 16 65536) (h1 : num (rd (rowN G)) 16 < TOP) (h2 : 0 < num (rd (rowN G)) 16) :
    Goes Tryd.prog Tryd.f8.ntmps w0 (restOf 2 (roundOf 0 (bodyOf Tryd.f8))) .norm (kn (ruS t r (-1)) (ruH x G)) fun k o σ => k = [] ∧ o = .norm ∧ σ = kn (rtS (sgn r ++ t)) (rtH (num (rd (rowN G)) 16)) := by
  have hsz : (sgn r).size + t.size ≤ 9223372036854775807 := by show 1 + t.size ≤ _; omega
  exact goes (ctx_ok tP_ok 43) mixed rfl (gs := []) (gh := []) (orc := way [(41, 1)]) (stops := []) (f := 3000) (k := (restOf 2 (roundOf 0 (bodyOf Tryd.f8)))) (o := .norm) (σ := (kn (ruS t r (-1)) (ruH x G))) (cs := [True, (0 : Int) ≤ (48 : Int) + (↑r : Int) ∧ (48 : Int) + (↑r : Int) < (18446744073709551616 : Int), (0 : Int) ≤ (48 : Int) + (↑r : Int) ∧ (48 : Int) + (↑r : Int) < (256 : Int), True, (0 : Nat) < (1 : Nat) ∧ (0 : Int) ≤ (48 : Int) + (↑r : Int) ∧ (48 : Int) + (↑r : Int) < (256 : Int), True, ByteArray.size (ByteArray.mk #[UInt8.ofNat (48 + r)]) + ByteArray.size t ≤ (9223372036854775807 : Nat), True, True, (16 : Nat) = (16 : Nat) ∧ (16 : Nat) ≤ (16 : Nat) ∧ (16 : Nat) < (64 : Nat) ∧ digs (rowN G) (16 : Nat) (65536 : Nat) ∧ num (rd (rowN G)) (16 : Nat) < TOP, True, True, True, True, True, (0 : Nat) < num (rd (rowN G)) (16 : Nat)]) (k' := []) (o' := .norm) (S := (rtS (sgn r ++ t))) (H := (rtH (num (rd (rowN G)) 16))) (by kernel_rfl) (by kernel_rfl) (by simp only [conj] <;> (repeat' apply And.intro) <;> first | trivial | exact hsz | exact hd | exact h1 | exact h2 | omega | (simp [addO_eq]; done) | (simp [addO_eq]; omega))

theorem rt_last {w0 : Base} {t : ByteArray} {x r : Nat} {G : Nat → Nat} (ht : t.size < 1000) (hr : r < 10) (hd : digs (rowN G) 16 65536) (h1 : num (rd (rowN G)) 16 < TOP) (h2 : num (rd (rowN G)) 16 = 0) :
    Goes Tryd.prog Tryd.f8.ntmps w0 (restOf 2 (roundOf 0 (bodyOf Tryd.f8))) .norm (kn (ruS t r (-1)) (ruH x G)) fun k o σ => k = [] ∧ o = .ret ∧ σ = kn [(2, .one [.str (sgn r ++ t)])] [] := by
  have hsz : (sgn r).size + t.size ≤ 9223372036854775807 := by show 1 + t.size ≤ _; omega
  exact goes (ctx_ok tP_ok 43) mixed rfl (gs := []) (gh := []) (orc := way []) (stops := []) (f := 3000) (k := (restOf 2 (roundOf 0 (bodyOf Tryd.f8)))) (o := .norm) (σ := (kn (ruS t r (-1)) (ruH x G))) (cs := [True, (0 : Int) ≤ (48 : Int) + (↑r : Int) ∧ (48 : Int) + (↑r : Int) < (18446744073709551616 : Int), (0 : Int) ≤ (48 : Int) + (↑r : Int) ∧ (48 : Int) + (↑r : Int) < (256 : Int), True, (0 : Nat) < (1 : Nat) ∧ (0 : Int) ≤ (48 : Int) + (↑r : Int) ∧ (48 : Int) + (↑r : Int) < (256 : Int), True, ByteArray.size (ByteArray.mk #[UInt8.ofNat (48 + r)]) + ByteArray.size t ≤ (9223372036854775807 : Nat), True, True, (16 : Nat) = (16 : Nat) ∧ (16 : Nat) ≤ (16 : Nat) ∧ (16 : Nat) < (64 : Nat) ∧ digs (rowN G) (16 : Nat) (65536 : Nat) ∧ num (rd (rowN G)) (16 : Nat) < TOP, True, True, True, True, True, num (rd (rowN G)) (16 : Nat) = (0 : Nat), True, True]) (k' := []) (o' := .ret) (S := [(2, .one [.str (sgn r ++ t)])]) (H := ([] : List (Nat × Bk))) (by kernel_rfl) (by kernel_rfl) (by simp only [conj] <;> (repeat' apply And.intro) <;> first | trivial | exact hsz | exact hd | exact h1 | exact h2 | omega | (simp [addO_eq]; done) | (simp [addO_eq]; omega))

theorem rtext_goes {w0 : Base} {x : Nat} (hx : x < TOP) :
    Goes Tryd.prog Tryd.f8.ntmps w0 [.code (bodyOf Tryd.f8)] .norm (kn (argS 0 [.one (N x)]) []) (Fin (ctx tP 43) Tryd.f8.results.toList fun v _ => v = .one [.str (txt 78 x ByteArray.empty)]) := by
  refine (goes (ctx_ok tP_ok 43) mixed rfl (gs := []) (gh := []) (orc := way []) (stops := [0]) (f := 3000) (k := [.code (bodyOf Tryd.f8)]) (o := .norm) (σ := (kn (argS 0 [.one (N x)]) [])) (cs := [True, True, True]) (k' := (kOf 0 (bodyOf Tryd.f8))) (o' := .norm) (S := (rtS ByteArray.empty)) (H := (rtH x)) (by kernel_rfl) (by kernel_rfl) (by simp only [conj] <;> (repeat' apply And.intro) <;> first | trivial | assumption | omega | (simp [addO_eq]; done) | (simp [addO_eq]; omega))).bind ?_
  rintro k o σ ⟨rfl, rfl, rfl⟩
  have hk : kOf 0 (bodyOf Tryd.f8) = .code (.block 0 (.loop (roundOf 0 (bodyOf Tryd.f8)))) :: restOf 0 (bodyOf Tryd.f8) := by kernel_rfl
  rw [hk]
  refine (goes_loop (fun p : Nat × Nat × ByteArray => kn (rtS p.2.2) (rtH p.2.1)) (fun p => p.2.1 < 10 ^ p.1 ∧ p.2.1 < TOP ∧ 0 < p.1 ∧ p.2.2.size + p.1 < 900 ∧ txt p.1 p.2.1 p.2.2 = txt 78 x ByteArray.empty) (fun p => p.1)
    (fun o σ => o = .ret ∧ σ = kn [(2, .one [.str (txt 78 x ByteArray.empty)])] []) ?_ (p := (78, x, ByteArray.empty)) ⟨Nat.lt_of_lt_of_le hx (by show TOP ≤ 10 ^ 78; rw [top_eq]; exact Nat.le_of_ble_eq_true (by decide)), hx, by show 0 < 78; omega, by show 0 + 78 < 900; omega, rfl⟩).bind ?_
  · rintro ⟨f, y, t⟩ ⟨hf, hy, hf0, ht, he⟩
    simp only at hf hy hf0 ht he
    refine (rt_start hy).bind ?_
    rintro k o σ ⟨rfl, rfl, r, G, hI, rfl⟩
    obtain ⟨e1, e2, e3⟩ := rtI_end hI
    have e4 : num (rd (rowN G)) 16 = y / 10 := by rw [rd_rowN]; exact e1
    have hd : digs (rowN G) 16 65536 := digs_rowN fun j _ => e3 j
    have hq : y / 10 < TOP := Nat.lt_of_le_of_lt (Nat.div_le_self _ _) hy
    match f, hf0 with
    | g + 1, _ =>
      by_cases hz : y / 10 = 0
      · refine (rt_last (t := t) (by omega) (by rw [e2]; exact Nat.mod_lt _ (by omega)) hd (by rw [e4]; exact hq) (by rw [e4]; exact hz)).mono ?_
        rintro k o σ ⟨rfl, rfl, rfl⟩
        refine ⟨rfl, .inr ⟨by simp, rfl, ?_⟩⟩
        rw [← he, txt, if_pos hz, e2]
      · refine (rt_more (t := t) (by omega) (by rw [e2]; exact Nat.mod_lt _ (by omega)) hd (by rw [e4]; exact hq) (by rw [e4]; omega)).mono ?_
        rintro k o σ ⟨rfl, rfl, rfl⟩
        have hlt : y / 10 < 10 ^ g := by
          rw [Nat.pow_succ] at hf
          exact Nat.div_lt_of_lt_mul (by rw [Nat.mul_comm]; exact hf)
        refine ⟨rfl, .inl ⟨rfl, (g, y / 10, sgn r ++ t), ⟨hlt, hq, ?_, ?_, ?_⟩, Nat.lt_succ_self g, by rw [e4]⟩⟩
        · rcases Nat.eq_zero_or_pos g with h | h
          · subst h; simp at hlt; omega
          · exact h
        · show (sgn r ++ t).size + g < 900
          rw [ByteArray.size_append]
          show 1 + t.size + g < 900
          omega
        · show txt g (y / 10) (sgn r ++ t) = _
          rw [← he, txt, if_neg hz, e2]
  · rintro k o σ ⟨rfl, rfl, rfl⟩
    exact goes_ret (ctx_ok tP_ok 43) mixed rfl (orc := way []) (stops := []) (f := 3000) (k := (restOf 0 (bodyOf Tryd.f8))) (o := .ret) (σ := (kn [(2, .one [.str (txt 78 x ByteArray.empty)])] [])) (cs := []) (o' := .ret) (rs := Tryd.f8.results.toList) (v := (.one [.str (txt 78 x ByteArray.empty)])) (H := ([] : List (Nat × Bk))) (by kernel_rfl) (.inr rfl) (by simp only [conj] <;> (repeat' apply And.intro) <;> first | trivial | assumption | omega | (simp [addO_eq]; done) | (simp [addO_eq]; omega)) fun _ _ => rfl

end M
end Go.Proofs.YtmjdmhelmgcanaaDoor

/- The text of a number, and the number of a text: plain laws. -/
namespace Go.Proofs.YtmjdmhelmgcanaaDoor
namespace M

/-- bytes as a text -/
def strB (l : List UInt8) : ByteArray := ⟨l.toArray⟩
theorem strB_append (l m : List UInt8) : strB l ++ strB m = strB (l ++ m) := by
  apply ByteArray.ext
  simp [strB, ByteArray.data_append]
theorem strB_nil : strB [] = ByteArray.empty := rfl
theorem strB_data (s : ByteArray) : strB s.data.toList = s := by cases s; simp [strB]
theorem strB_size (l : List UInt8) : (strB l).size = l.length := by simp [strB, ByteArray.size]
theorem sgn_eq (r : Nat) : sgn r = strB [UInt8.ofNat (48 + r)] := rfl

/-- a number's text -/
def dec (x : Nat) : ByteArray := strB (Lib.decDigits x)

theorem decD_small {x : Nat} (h : x < 10) : Lib.decDigits x = [UInt8.ofNat (48 + x)] := Lib.decDigits_one h
theorem decD_big {x : Nat} (h : ¬ x < 10) : Lib.decDigits x = Lib.decDigits (x / 10) ++ [UInt8.ofNat (48 + x % 10)] := by rw [Lib.decDigits, dif_neg h]

theorem txt_dec : ∀ (f x : Nat) (l : List UInt8), x < 10 ^ (f + 1) → txt (f + 1) x (strB l) = strB (Lib.decDigits x ++ l)
  | f, x, l, h => by
    rw [txt]
    by_cases hx : x / 10 = 0
    · have h1 : x < 10 := by omega
      rw [if_pos hx, decD_small h1, Nat.mod_eq_of_lt h1, sgn_eq, strB_append]
    · have h1 : ¬ x < 10 := by omega
      rw [if_neg hx, sgn_eq, strB_append]
      match f with
      | 0 => omega
      | f + 1 =>
        rw [txt_dec f (x / 10) _ (by rw [Nat.pow_succ] at h; omega), decD_big h1]
        simp

theorem txt_dec78 {x : Nat} (h : x < 10 ^ 78) : txt 78 x ByteArray.empty = dec x := by
  have := txt_dec 77 x [] h
  rw [List.append_nil] at this
  exact this

/-- k digits of a number -/
def pad : Nat → Nat → List UInt8
  | 0, _ => []
  | k + 1, p => pad k (p / 10) ++ [UInt8.ofNat (48 + p % 10)]

theorem pad_zero : ∀ k, pad k 0 = List.replicate k 48
  | 0 => rfl
  | k + 1 => by
    rw [pad, Nat.zero_div, pad_zero k, List.replicate_succ']
    rfl

theorem dec_split {a : Nat} (ha : 0 < a) : ∀ (k p : Nat), p < 10 ^ k → Lib.decDigits (a * 10 ^ k + p) = Lib.decDigits a ++ pad k p
  | 0, p, hp => by
    have : p = 0 := by rw [Nat.pow_zero] at hp; omega
    subst this
    simp [pad]
  | k + 1, p, hp => by
    have hk : 1 ≤ 10 ^ k := Nat.one_le_pow _ _ (by decide)
    have e1 : a * 10 ^ (k + 1) = 10 * (a * 10 ^ k) := by rw [Nat.pow_succ]; ac_rfl
    have h2 : 1 ≤ a * 10 ^ k := Nat.mul_pos ha hk
    rw [decD_big (by omega), show (a * 10 ^ (k + 1) + p) / 10 = a * 10 ^ k + p / 10 by omega, show (a * 10 ^ (k + 1) + p) % 10 = p % 10 by omega, dec_split ha k (p / 10) (by rw [Nat.pow_succ] at hp; omega), pad, List.append_assoc]

theorem decD_length {x : Nat} : ∀ {k : Nat}, x < 10 ^ (k + 1) → (Lib.decDigits x).length ≤ k + 1 := by
  induction x using Nat.strongRecOn with
  | _ x ih =>
    intro k h
    by_cases hx : x < 10
    · rw [decD_small hx]; simp
    · rw [decD_big hx, List.length_append]
      match k with
      | 0 => exact absurd h (by omega)
      | k + 1 =>
        have := ih (x / 10) (by omega) (k := k) (by rw [Nat.pow_succ] at h; omega)
        simp only [List.length_cons, List.length_nil]
        omega

theorem pad_dec : ∀ (k p : Nat), p < 10 ^ (k + 1) → pad (k + 1) p = List.replicate (k + 1 - (Lib.decDigits p).length) 48 ++ Lib.decDigits p
  | k, p, hp => by
    by_cases h : p < 10
    · rw [pad, Nat.div_eq_of_lt h, pad_zero, decD_small h, Nat.mod_eq_of_lt h]
      simp
    · match k with
      | 0 => exact absurd hp (by omega)
      | k + 1 =>
        have h1 : p / 10 < 10 ^ (k + 1) := by rw [Nat.pow_succ] at hp; omega
        rw [pad, pad_dec k (p / 10) h1, decD_big h, List.length_append, List.append_assoc]
        simp

theorem dec_more {a p : Nat} (ha : 0 < a) (hp : p < 10 ^ 19) : dec (a * 10 ^ 19 + p) = dec a ++ (strB (Lib.repeatL [48] (19 - (dec p).size)) ++ dec p) := by
  unfold dec
  rw [strB_append, strB_append, dec_split ha 19 p hp, pad_dec 18 p hp, strB_size, show ([48] : List UInt8) = List.replicate 1 48 from rfl, Lib.repeatL_replicate, Nat.mul_one]

/-! ## The number of a text -/

theorem byteAt_strB (l : List UInt8) (i : Nat) : byteAt (strB l) i = (l.getD i 0).toNat := by simp [byteAt, strB]
theorem byteAt_left {l m : List UInt8} {i : Nat} (h : i < l.length) : byteAt (strB (l ++ m)) i = byteAt (strB l) i := by
  rw [byteAt_strB, byteAt_strB]
  simp [List.getD_eq_getElem?_getD, List.getElem?_append_left h]
theorem byteAt_last (l : List UInt8) (c : UInt8) : byteAt (strB (l ++ [c])) l.length = c.toNat := by
  rw [byteAt_strB]
  simp [List.getD_eq_getElem?_getD]

theorem dv_left {l m : List UInt8} : ∀ i, i ≤ l.length → dv (strB (l ++ m)) i = dv (strB l) i
  | 0, _ => rfl
  | i + 1, h => by rw [dv, dv, dv_left i (by omega), byteAt_left (by omega)]

theorem sign_nat {r : Nat} (h : r < 10) : (UInt8.ofNat (48 + r)).toNat = 48 + r := by
  rw [UInt8.toNat_ofNat']
  omega

theorem dv_dec (x : Nat) : dv (dec x) (dec x).size = x := by
  induction x using Nat.strongRecOn with
  | _ x ih =>
    by_cases h : x < 10
    · unfold dec
      rw [decD_small h, strB_size]
      have e := byteAt_last [] (UInt8.ofNat (48 + x))
      rw [sign_nat h, List.nil_append, List.length_nil] at e
      rw [List.length_singleton, dv, dv, e]
      omega
    · have h1 := ih (x / 10) (by omega)
      have hr := Nat.mod_lt x (show 0 < 10 by omega)
      unfold dec at h1 ⊢
      rw [decD_big h, strB_size, List.length_append]
      rw [strB_size] at h1
      show dv _ ((Lib.decDigits (x / 10)).length + 1) = x
      rw [dv, dv_left _ (Nat.le_refl _), h1, byteAt_last, sign_nat hr]
      omega

theorem dec_pos (x : Nat) : 0 < (dec x).size := by
  unfold dec
  rw [strB_size, Lib.decDigits_length]
  exact Lib.nDigits_pos x

theorem dec_head (x : Nat) (hx : 0 < x) : byteAt (dec x) 0 ≠ 48 := by
  induction x using Nat.strongRecOn with
  | _ x ih =>
    by_cases h : x < 10
    · unfold dec
      rw [decD_small h]
      have e := byteAt_last [] (UInt8.ofNat (48 + x))
      rw [sign_nat h, List.nil_append, List.length_nil] at e
      rw [e]
      omega
    · have h1 := ih (x / 10) (by omega) (by omega)
      have h2 := dec_pos (x / 10)
      unfold dec at h1 h2 ⊢
      rw [strB_size] at h2
      rw [decD_big h, byteAt_left h2]
      exact h1

theorem dec_dig (x : Nat) : ∀ i, i < (dec x).size → dig1 (dec x) i := by
  induction x using Nat.strongRecOn with
  | _ x ih =>
    intro i hi
    by_cases h : x < 10
    · unfold dec at hi ⊢
      rw [decD_small h] at hi ⊢
      have : i = 0 := by rw [strB_size] at hi; simp at hi; exact hi
      subst this
      have e := byteAt_last [] (UInt8.ofNat (48 + x))
      rw [sign_nat h] at e
      simp only [List.nil_append, List.length_nil] at e
      unfold dig1
      omega
    · have h1 := ih (x / 10) (by omega)
      have hr := Nat.mod_lt x (show 0 < 10 by omega)
      unfold dec at h1 hi ⊢
      rw [strB_size] at h1
      rw [decD_big h] at hi ⊢
      rw [strB_size, List.length_append] at hi
      simp only [List.length_cons, List.length_nil] at hi
      by_cases hl : i < (Lib.decDigits (x / 10)).length
      · have := h1 i hl
        unfold dig1 at this ⊢
        rw [byteAt_left hl]
        exact this
      · obtain rfl : i = (Lib.decDigits (x / 10)).length := by omega
        unfold dig1
        rw [byteAt_last, sign_nat hr]
        omega

theorem frm_dec (x : Nat) : frm (dec x) := by
  refine ⟨dec_pos x, ?_, dec_dig x⟩
  rintro ⟨h1, h2⟩
  rcases Nat.eq_zero_or_pos x with h | h
  · subst h
    unfold dec at h1
    rw [decD_small (by omega), strB_size] at h1
    simp at h1
  · exact dec_head x h h2

theorem dec_size {x : Nat} (h : x < 10 ^ 78) : (dec x).size ≤ 78 := by
  unfold dec
  rw [strB_size]
  exact decD_length h

/-! ## A text is the text of its number -/

theorem dv_some {s : ByteArray} (h : frm s) (h0 : byteAt s 0 ≠ 48) : ∀ i, 0 < i → i ≤ s.size → 0 < dv s i
  | 0, h1, _ => absurd h1 (Nat.lt_irrefl _)
  | 1, _, h2 => by
    have := h.2.2 0 (by omega)
    unfold dig1 at this
    show 0 < 0 * 10 + (byteAt s 0 - 48)
    omega
  | i + 2, _, h2 => by
    have := dv_some h h0 (i + 1) (by omega) (by omega)
    show 0 < dv s (i + 1) * 10 + _
    omega

theorem sign_of {c : UInt8} (h1 : 48 ≤ c.toNat) : UInt8.ofNat (48 + (c.toNat - 48)) = c := by
  rw [Nat.add_sub_cancel' h1]
  exact UInt8.ofNat_toNat

theorem getD_lt (l : List UInt8) {i : Nat} (h : i < l.length) : l[i]? = some (l.getD i 0) := by
  rw [List.getD_eq_getElem?_getD, List.getElem?_eq_getElem h]
  rfl

theorem dec_of {s : ByteArray} (h : frm s) : dec (dv s s.size) = s := by
  have hsz : s.size = s.data.toList.length := rfl
  have key : ∀ i, 0 < i → i ≤ s.size → Lib.decDigits (dv s i) = s.data.toList.take i := by
    intro i
    induction i with
    | zero => intro h1; exact absurd h1 (Nat.lt_irrefl _)
    | succ i ih =>
      intro _ hi
      have hd := h.2.2 i (by omega)
      have hlt : i < s.data.toList.length := by omega
      have hget := getD_lt s.data.toList hlt
      obtain ⟨c, hc⟩ : ∃ c, s.data.toList.getD i 0 = c := ⟨_, rfl⟩
      have hb : byteAt s i = c.toNat := by unfold byteAt; rw [hc]
      rw [hc] at hget
      unfold dig1 at hd
      rw [hb] at hd
      rw [List.take_add_one, hget]
      have e : dv s (i + 1) = dv s i * 10 + (c.toNat - 48) := by rw [dv, hb]
      rcases Nat.eq_zero_or_pos i with h0 | h0
      · subst h0
        rw [e, show dv s 0 = 0 from rfl, decD_small (by omega), Nat.zero_mul, Nat.zero_add, sign_of hd.1]
        simp
      · have hne : byteAt s 0 ≠ 48 := fun hz => h.2.1 ⟨by omega, hz⟩
        have hp := dv_some h hne i h0 (by omega)
        rw [e, decD_big (by omega), show (dv s i * 10 + (c.toNat - 48)) / 10 = dv s i by omega, show (dv s i * 10 + (c.toNat - 48)) % 10 = c.toNat - 48 by omega, sign_of hd.1, ih h0 (by omega)]
        rfl
  unfold dec
  rw [key s.size h.1 (Nat.le_refl _), hsz, List.take_length, strB_data]

end M
end Go.Proofs.YtmjdmhelmgcanaaDoor

/- r01.Parse, whole. -/
namespace Go.Proofs.YtmjdmhelmgcanaaDoor
namespace M
open Go.RowKit
set_option linter.unusedSimpArgs false
set_option linter.unusedVariables false


/-- what a text's reading comes to -/
def PsR (s : ByteArray) (v : Sv) : Prop := (frm s ∧ dv s s.size < TOP ∧ v = .tup [N (dv s s.size), E 0]) ∨ (frm s ∧ TOP ≤ dv s s.size ∧ v = .tup [N 0, E 2]) ∨ (¬ frm s ∧ v = .tup [N 0, E 4])

theorem dv_big {s : ByteArray} (h0 : 49 ≤ byteAt s 0) : ∀ n, 10 ^ n ≤ dv s (n + 1)
  | 0 => by show 1 ≤ 0 * 10 + (byteAt s 0 - 48); omega
  | n + 1 => by
    have h := dv_big h0 n
    show 10 ^ (n + 1) ≤ dv s (n + 1) * 10 + _
    rw [Nat.pow_succ]; omega

theorem dv_long {s : ByteArray} (hf : frm s) (h : 78 < s.size) : TOP ≤ dv s s.size := by
  have h1 : 49 ≤ byteAt s 0 := by
    have h2 := hf.2.1
    have h3 := (hf.2.2 0 hf.1).1
    rcases Nat.lt_or_ge (byteAt s 0) 49 with h4 | h4
    · exact absurd ⟨by omega, by omega⟩ h2
    · exact h4
  have h2 := dv_big h1 78
  have h3 := dv_mono s 79 (s.size - 79)
  rw [show 79 + (s.size - 79) = s.size by omega] at h3
  have h4 : TOP ≤ 10 ^ 78 := by rw [top_eq]; exact Nat.le_of_ble_eq_true (by decide)
  exact Nat.le_trans h4 (Nat.le_trans h2 h3)


theorem psf_chk {w0 : Base} {s : ByteArray} (hs : s.size < 1000) {i : Nat} (hi : i < s.size) :
    Goes Tryd.prog Tryd.f9.ntmps w0 [.code (roundOf 0 (bodyOf Tryd.f9))] .norm (kn (paS s i) paH) fun k' o σ => k' = [] ∧ ((o = .norm ∧ dig1 s i ∧ σ = kn (paS s (i + 1)) paH) ∨ (o = .ret ∧ ¬ dig1 s i ∧ σ = kn (paR 4) paH)) := by
  by_cases h1 : byteAt s i < 48
  · refine (goes (ctx_ok tP_ok 85) mixed rfl (gs := []) (gh := []) (orc := way []) (stops := []) (f := 3000) (k := [.code (roundOf 0 (bodyOf Tryd.f9))]) (o := .norm) (σ := (kn (paS s i) paH)) (cs := [True, True, True, (↑i : Int) < (↑(ByteArray.size s) : Int), True, True, (0 : Int) ≤ (↑i : Int) ∧ (↑i : Int) < (↑(ByteArray.size s) : Int), (↑(byteAt s i) : Int) < (48 : Int), True, True, True, True, True, True, True, True, True]) (k' := []) (o' := .ret) (S := (paR 4)) (H := paH) (by kernel_rfl) (by kernel_rfl) (by simp only [conj] <;> (repeat' apply And.intro) <;> first | trivial | omega | (simp [addO_eq]; done) | (simp [addO_eq]; omega))).mono ?_
    rintro k o σ ⟨rfl, rfl, rfl⟩
    exact ⟨rfl, .inr ⟨rfl, fun h => by have := h.1; omega, rfl⟩⟩
  · by_cases h2 : 57 < byteAt s i
    · refine (goes (ctx_ok tP_ok 85) mixed rfl (gs := []) (gh := []) (orc := way [(34, 1)]) (stops := []) (f := 3000) (k := [.code (roundOf 0 (bodyOf Tryd.f9))]) (o := .norm) (σ := (kn (paS s i) paH)) (cs := [True, True, True, (↑i : Int) < (↑(ByteArray.size s) : Int), True, True, (0 : Int) ≤ (↑i : Int) ∧ (↑i : Int) < (↑(ByteArray.size s) : Int), ¬(↑(byteAt s i) : Int) < (48 : Int), True, True, True, (0 : Int) ≤ (↑i : Int) ∧ (↑i : Int) < (↑(ByteArray.size s) : Int), (57 : Int) < (↑(byteAt s i) : Int), True, True, True, True]) (k' := []) (o' := .ret) (S := (paR 4)) (H := paH) (by kernel_rfl) (by kernel_rfl) (by simp only [conj] <;> (repeat' apply And.intro) <;> first | trivial | omega | (simp [addO_eq]; done) | (simp [addO_eq]; omega))).mono ?_
      rintro k o σ ⟨rfl, rfl, rfl⟩
      exact ⟨rfl, .inr ⟨rfl, fun h => by have := h.2; omega, rfl⟩⟩
    · refine (goes (ctx_ok tP_ok 85) mixed rfl (gs := []) (gh := []) (orc := way [(34, 1), (39, 1)]) (stops := []) (f := 3000) (k := [.code (roundOf 0 (bodyOf Tryd.f9))]) (o := .norm) (σ := (kn (paS s i) paH)) (cs := [True, True, True, (↑i : Int) < (↑(ByteArray.size s) : Int), True, True, (0 : Int) ≤ (↑i : Int) ∧ (↑i : Int) < (↑(ByteArray.size s) : Int), ¬(↑(byteAt s i) : Int) < (48 : Int), True, True, True, (0 : Int) ≤ (↑i : Int) ∧ (↑i : Int) < (↑(ByteArray.size s) : Int), ¬(57 : Int) < (↑(byteAt s i) : Int), True, True, (-9223372036854775808 : Int) ≤ (↑i : Int) + (1 : Int) ∧ (↑i : Int) + (1 : Int) < (9223372036854775808 : Int), True]) (k' := []) (o' := .norm) (S := (paS s (i + 1))) (H := paH) (by kernel_rfl) (by kernel_rfl) (by simp only [conj] <;> (repeat' apply And.intro) <;> first | trivial | omega | (simp [addO_eq]; done) | (simp [addO_eq]; omega))).mono ?_
      rintro k o σ ⟨rfl, rfl, rfl⟩
      exact ⟨rfl, .inl ⟨rfl, ⟨by omega, by omega⟩, rfl⟩⟩

theorem psf_sum {w0 : Base} {s : ByteArray} (hs : s.size < 1000) (hf : frm s) :
    Goes Tryd.prog Tryd.f9.ntmps w0 (kOf 2 (bodyOf Tryd.f9)) .norm (kn (pbS s 0) (pbH 0)) (Fin (ctx tP 85) Tryd.f9.results.toList fun v _ => PsR s v) := by
  have hk : kOf 2 (bodyOf Tryd.f9) = .code (.block 2 (.loop (roundOf 2 (bodyOf Tryd.f9)))) :: restOf 2 (bodyOf Tryd.f9) := by kernel_rfl
  rw [hk]
  refine (goes_loop (fun i : Nat => kn (pbS s i) (pbH (dv s i))) (fun i => i ≤ s.size ∧ dv s i < TOP) (fun i => s.size - i)
    (fun o σ => (o = .norm ∧ dv s s.size < TOP ∧ σ = kn (pbS s s.size) (pbH (dv s s.size))) ∨ (o = .ret ∧ TOP ≤ dv s s.size ∧ σ = kn (paR 2) paH)) ?_ (p := 0) ⟨Nat.zero_le _, top_pos⟩).bind ?_
  · rintro i ⟨hle, hlt⟩
    by_cases hi : i < s.size
    · refine (ps_round hi hs (hf.2.2 i hi) hlt).mono ?_
      rintro k o σ ⟨rfl, ⟨rfl, h, rfl⟩ | ⟨rfl, h, rfl⟩⟩
      · exact ⟨rfl, .inl ⟨rfl, i + 1, ⟨hi, h⟩, by omega, rfl⟩⟩
      · refine ⟨rfl, .inr ⟨by simp, .inr ⟨rfl, ?_, rfl⟩⟩⟩
        have := dv_mono s (i + 1) (s.size - (i + 1))
        rw [show i + 1 + (s.size - (i + 1)) = s.size by omega] at this
        exact Nat.le_trans h this
    · obtain rfl : i = s.size := by omega
      refine (goes (ctx_ok tP_ok 85) mixed rfl (gs := []) (gh := []) (orc := way [(49, 1)]) (stops := []) (f := 3000) (k := [.code (roundOf 2 (bodyOf Tryd.f9))]) (o := .norm) (σ := (kn (pbS s s.size) (pbH (dv s s.size)))) (cs := [True, True, True, ¬(↑(ByteArray.size s) : Int) < (↑(ByteArray.size s) : Int)]) (k' := []) (o' := (.exit 2)) (S := (pbS s s.size)) (H := (pbH (dv s s.size))) (by kernel_rfl) (by kernel_rfl) (by simp only [conj] <;> (repeat' apply And.intro) <;> first | trivial | omega | (simp [addO_eq]; done) | (simp [addO_eq]; omega))).mono ?_
      rintro k o σ ⟨rfl, rfl, rfl⟩
      exact ⟨rfl, .inr ⟨by simp, .inl ⟨rfl, hlt, rfl⟩⟩⟩
  · rintro k o σ ⟨rfl, ⟨rfl, h, rfl⟩ | ⟨rfl, h, rfl⟩⟩
    · exact goes_ret (ctx_ok tP_ok 85) mixed rfl (orc := way []) (stops := []) (f := 3000) (k := (restOf 2 (bodyOf Tryd.f9))) (o := .norm) (σ := (kn (pbS s s.size) (pbH (dv s s.size)))) (cs := [True, True, True]) (o' := .ret) (rs := Tryd.f9.results.toList) (v := (.tup [N (dv s s.size), E 0])) (H := ([] : List (Nat × Bk))) (by kernel_rfl) (.inr rfl) (by simp only [conj] <;> (repeat' apply And.intro) <;> first | trivial | omega | (simp [addO_eq]; done) | (simp [addO_eq]; omega)) fun _ _ => .inl ⟨hf, h, rfl⟩
    · exact goes_ret (ctx_ok tP_ok 85) mixed rfl (orc := way []) (stops := []) (f := 3000) (k := (restOf 2 (bodyOf Tryd.f9))) (o := .ret) (σ := (kn (paR 2) paH)) (cs := []) (o' := .ret) (rs := Tryd.f9.results.toList) (v := (.tup [N 0, E 2])) (H := ([] : List (Nat × Bk))) (by kernel_rfl) (.inr rfl) (by simp only [conj] <;> (repeat' apply And.intro) <;> first | trivial | omega | (simp [addO_eq]; done) | (simp [addO_eq]; omega)) fun _ _ => .inr (.inl ⟨hf, h, rfl⟩)

theorem psf_rest {w0 : Base} {s : ByteArray} (hs : s.size < 1000) (h0 : 0 < s.size) (hl : ¬ (1 < s.size ∧ byteAt s 0 = 48)) :
    Goes Tryd.prog Tryd.f9.ntmps w0 (kOf 0 (bodyOf Tryd.f9)) .norm (kn (paS s 0) paH) (Fin (ctx tP 85) Tryd.f9.results.toList fun v _ => PsR s v) := by
  have hk : kOf 0 (bodyOf Tryd.f9) = .code (.block 0 (.loop (roundOf 0 (bodyOf Tryd.f9)))) :: restOf 0 (bodyOf Tryd.f9) := by kernel_rfl
  rw [hk]
  refine (goes_loop (fun i : Nat => kn (paS s i) paH) (fun i => i ≤ s.size ∧ ∀ k, k < i → dig1 s k) (fun i => s.size - i)
    (fun o σ => (o = .norm ∧ frm s ∧ σ = kn (paS s s.size) paH) ∨ (o = .ret ∧ ¬ frm s ∧ σ = kn (paR 4) paH)) ?_ (p := 0) ⟨Nat.zero_le _, fun k hk => absurd hk (Nat.not_lt_zero k)⟩).bind ?_
  · rintro i ⟨hle, hd⟩
    by_cases hi : i < s.size
    · refine (psf_chk hs hi).mono ?_
      rintro k o σ ⟨rfl, ⟨rfl, h, rfl⟩ | ⟨rfl, h, rfl⟩⟩
      · refine ⟨rfl, .inl ⟨rfl, i + 1, ⟨hi, fun k hk => ?_⟩, by omega, rfl⟩⟩
        by_cases e : k = i
        · subst e; exact h
        · exact hd k (by omega)
      · exact ⟨rfl, .inr ⟨by simp, .inr ⟨rfl, fun hf => h (hf.2.2 i hi), rfl⟩⟩⟩
    · obtain rfl : i = s.size := by omega
      refine (goes (ctx_ok tP_ok 85) mixed rfl (gs := []) (gh := []) (orc := way [(28, 1)]) (stops := []) (f := 3000) (k := [.code (roundOf 0 (bodyOf Tryd.f9))]) (o := .norm) (σ := (kn (paS s s.size) paH)) (cs := [True, True, True, ¬(↑(ByteArray.size s) : Int) < (↑(ByteArray.size s) : Int)]) (k' := []) (o' := (.exit 0)) (S := (paS s s.size)) (H := paH) (by kernel_rfl) (by kernel_rfl) (by simp only [conj] <;> (repeat' apply And.intro) <;> first | trivial | omega | (simp [addO_eq]; done) | (simp [addO_eq]; omega))).mono ?_
      rintro k o σ ⟨rfl, rfl, rfl⟩
      exact ⟨rfl, .inr ⟨by simp, .inl ⟨rfl, ⟨h0, hl, hd⟩, rfl⟩⟩⟩
  · rintro k o σ ⟨rfl, ⟨rfl, hf, rfl⟩ | ⟨rfl, hf, rfl⟩⟩
    · by_cases h78 : 78 < s.size
      · exact goes_ret (ctx_ok tP_ok 85) mixed rfl (orc := way []) (stops := []) (f := 3000) (k := (restOf 0 (bodyOf Tryd.f9))) (o := .norm) (σ := (kn (paS s s.size) paH)) (cs := [True, True, (78 : Int) < (↑(ByteArray.size s) : Int), True, True, True]) (o' := .ret) (rs := Tryd.f9.results.toList) (v := (.tup [N 0, E 2])) (H := ([] : List (Nat × Bk))) (by kernel_rfl) (.inr rfl) (by simp only [conj] <;> (repeat' apply And.intro) <;> first | trivial | omega | (simp [addO_eq]; done) | (simp [addO_eq]; omega)) fun _ _ => .inr (.inl ⟨hf, dv_long hf h78, rfl⟩)
      · refine (goes (ctx_ok tP_ok 85) mixed rfl (gs := [6]) (gh := []) (orc := way [(44, 1)]) (stops := [2]) (f := 3000) (k := (restOf 0 (bodyOf Tryd.f9))) (o := .norm) (σ := (kn (paS s s.size) paH)) (cs := [True, True, ¬(78 : Int) < (↑(ByteArray.size s) : Int), True, True]) (k' := (kOf 2 (bodyOf Tryd.f9))) (o' := .norm) (S := (pbS s 0)) (H := (pbH 0)) (by kernel_rfl) (by kernel_rfl) (by simp only [conj] <;> (repeat' apply And.intro) <;> first | trivial | omega | (simp [addO_eq]; done) | (simp [addO_eq]; omega))).bind ?_
        rintro k o σ ⟨rfl, rfl, rfl⟩
        exact psf_sum hs hf
    · exact goes_ret (ctx_ok tP_ok 85) mixed rfl (orc := way []) (stops := []) (f := 3000) (k := (restOf 0 (bodyOf Tryd.f9))) (o := .ret) (σ := (kn (paR 4) paH)) (cs := []) (o' := .ret) (rs := Tryd.f9.results.toList) (v := (.tup [N 0, E 4])) (H := ([] : List (Nat × Bk))) (by kernel_rfl) (.inr rfl) (by simp only [conj] <;> (repeat' apply And.intro) <;> first | trivial | omega | (simp [addO_eq]; done) | (simp [addO_eq]; omega)) fun _ _ => .inr (.inr ⟨hf, rfl⟩)

theorem rparse_goes {w0 : Base} {s : ByteArray} (hs : s.size < 1000) :
    Goes Tryd.prog Tryd.f9.ntmps w0 [.code (bodyOf Tryd.f9)] .norm (kn (argS 0 [.one [.str s]]) []) (Fin (ctx tP 85) Tryd.f9.results.toList fun v _ => PsR s v) := by
  by_cases h0 : s.size = 0
  · exact goes_ret (ctx_ok tP_ok 85) mixed rfl (orc := way []) (stops := []) (f := 3000) (k := [.code (bodyOf Tryd.f9)]) (o := .norm) (σ := (kn (argS 0 [.one [.str s]]) [])) (cs := [True, True, True, True, (↑(ByteArray.size s) : Int) = (0 : Int), True, True, True, True, True, True, True, True, True, True, True, True, True]) (o' := .ret) (rs := Tryd.f9.results.toList) (v := (.tup [N 0, E 4])) (H := ([] : List (Nat × Bk))) (by kernel_rfl) (.inr rfl) (by simp only [conj] <;> (repeat' apply And.intro) <;> first | trivial | omega | (simp [addO_eq]; done) | (simp [addO_eq]; omega)) fun _ _ => .inr (.inr ⟨fun hf => by have := hf.1; omega, rfl⟩)
  · by_cases h1 : byteAt s 0 = 48
    · by_cases h2 : 1 < s.size
      · exact goes_ret (ctx_ok tP_ok 85) mixed rfl (orc := way [(13, 1)]) (stops := []) (f := 3000) (k := [.code (bodyOf Tryd.f9)]) (o := .norm) (σ := (kn (argS 0 [.one [.str s]]) [])) (cs := [True, True, True, True, ¬(↑(ByteArray.size s) : Int) = (0 : Int), True, True, (0 : Int) ≤ (0 : Int) ∧ (0 : Int) < (↑(ByteArray.size s) : Int), (↑(byteAt s (0)) : Int) = (48 : Int), True, True, True, (1 : Int) < (↑(ByteArray.size s) : Int), True, True, True, True, True]) (o' := .ret) (rs := Tryd.f9.results.toList) (v := (.tup [N 0, E 4])) (H := ([] : List (Nat × Bk))) (by kernel_rfl) (.inr rfl) (by simp only [conj] <;> (repeat' apply And.intro) <;> first | trivial | omega | (simp [addO_eq]; done) | (simp [addO_eq]; omega)) fun _ _ => .inr (.inr ⟨fun hf => hf.2.1 ⟨h2, h1⟩, rfl⟩)
      · refine (goes (ctx_ok tP_ok 85) mixed rfl (gs := [4]) (gh := []) (orc := way [(13, 1), (21, 1)]) (stops := [0]) (f := 3000) (k := [.code (bodyOf Tryd.f9)]) (o := .norm) (σ := (kn (argS 0 [.one [.str s]]) [])) (cs := [True, True, True, True, ¬(↑(ByteArray.size s) : Int) = (0 : Int), True, True, (0 : Int) ≤ (0 : Int) ∧ (0 : Int) < (↑(ByteArray.size s) : Int), (↑(byteAt s (0)) : Int) = (48 : Int), True, True, True, ¬(1 : Int) < (↑(ByteArray.size s) : Int), True, True, True]) (k' := (kOf 0 (bodyOf Tryd.f9))) (o' := .norm) (S := (paS s 0)) (H := paH) (by kernel_rfl) (by kernel_rfl) (by simp only [conj] <;> (repeat' apply And.intro) <;> first | trivial | omega | (simp [addO_eq]; done) | (simp [addO_eq]; omega))).bind ?_
        rintro k o σ ⟨rfl, rfl, rfl⟩
        exact psf_rest hs (by omega) (by omega)
    · refine (goes (ctx_ok tP_ok 85) mixed rfl (gs := [4]) (gh := []) (orc := way [(13, 1), (17, 1)]) (stops := [0]) (f := 3000) (k := [.code (bodyOf Tryd.f9)]) (o := .norm) (σ := (kn (argS 0 [.one [.str s]]) [])) (cs := [True, True, True, True, ¬(↑(ByteArray.size s) : Int) = (0 : Int), True, True, (0 : Int) ≤ (0 : Int) ∧ (0 : Int) < (↑(ByteArray.size s) : Int), ¬(↑(byteAt s (0)) : Int) = (48 : Int), True, True, True, True, True, True, True]) (k' := (kOf 0 (bodyOf Tryd.f9))) (o' := .norm) (S := (paS s 0)) (H := paH) (by kernel_rfl) (by kernel_rfl) (by simp only [conj] <;> (repeat' apply And.intro) <;> first | trivial | omega | (simp [addO_eq]; done) | (simp [addO_eq]; omega))).bind ?_
      rintro k o σ ⟨rfl, rfl, rfl⟩
      exact psf_rest hs (by omega) (by omega)

end M
end Go.Proofs.YtmjdmhelmgcanaaDoor

/- strings.ContainsFunc over signs that are no digits. -/
namespace Go.Proofs.YtmjdmhelmgcanaaDoor
namespace M
open Go.RowKit

theorem idx_all (s : ByteArray) : ∀ (f pos : Nat), (∀ i, pos ≤ i → i < s.size → dig1 s i) → Lib.idxFuncFrom noDigit true s f pos = -1
  | 0, _, _ => rfl
  | f + 1, pos, h => by
    unfold Lib.idxFuncFrom
    by_cases hp : pos < s.size
    · have hd := h pos (Nat.le_refl _) hp
      have e := byteAt_get hp
      have h1 : (s[pos]'hp).toNat < 128 := by rw [← e]; have := hd.2; omega
      rw [if_pos hp, decode_ascii s pos hp h1, ← e]
      have h2 : noDigit (byteAt s pos) = false := by unfold noDigit; simp; exact ⟨hd.1, hd.2⟩
      simp only [h2, Bool.false_eq_true, if_false]
      exact idx_all s f (pos + 1) fun i hi => h i (by omega)
    · rw [if_neg hp]

theorem idx_some (s : ByteArray) : ∀ (f pos i : Nat), s.size - pos ≤ f → pos ≤ i → i < s.size → ¬ dig1 s i → 0 ≤ Lib.idxFuncFrom noDigit true s f pos
  | 0, pos, i, hf, h1, h2, _ => by omega
  | f + 1, pos, i, hf, h1, h2, h3 => by
    unfold Lib.idxFuncFrom
    have hp : pos < s.size := by omega
    rw [if_pos hp]
    have e := byteAt_get hp
    by_cases ha : (s[pos]'hp).toNat < 128
    · rw [decode_ascii s pos hp ha, ← e]
      by_cases hn : noDigit (byteAt s pos) = true
      · rw [if_pos hn]; omega
      · rw [if_neg hn]
        have hd : dig1 s pos := by
          unfold noDigit at hn
          simp at hn
          exact ⟨hn.1, hn.2⟩
        have hne : i ≠ pos := fun h => h3 (h ▸ hd)
        exact idx_some s f (pos + 1) i (by omega) (by omega) h2 h3
    · have hh := decode_high s pos hp (by omega)
      have hn : noDigit (Utf8.decode s pos).1 = true := by unfold noDigit; simp; right; omega
      rw [if_pos hn]; omega

theorem contains_any (s : ByteArray) (w : World) : Calls Tryd.prog 14 #[.string s, .func (.func 13) #[] #[]] w fun e w' => e = .returned (.bool (decide (0 ≤ Lib.idxFunc noDigit true s))) ∧ Below w.heap.size w w' :=
  Go.Proofs.Any.strings_ContainsFunc_grows laysPar 13 #[] (fun a w => Tryd.call13 a w) noDigit s w (fun W x _ _ => noDigit_calls x W)

def conK : PCon
  | [[.str s], [.fn 13]] => some [(∀ i, i < s.size → dig1 s i, .one (B false)), (¬ ∀ i, i < s.size → dig1 s i, .one (B true))]
  | _ => none
theorem con_e : EOK ⟨14, 0, pcon conK⟩ := by
  refine pcon_ok (fun a w => Tryd.call14 a w) fun args l hl ha p hp hc => ?_
  unfold conK at hl
  split at hl
  · rename_i s
    cases hl
    simp only [List.mem_cons, List.not_mem_nil, or_false] at hp
    rcases hp with rfl | rfl
    · refine ⟨one1 trivial, fun ρ w => ?_⟩
      have h := contains_any s w
      have e : Lib.idxFunc noDigit true s = -1 := idx_all s _ 0 fun i _ hi => hc i hi
      rw [e] at h
      exact h.mono fun e w' ⟨h1, h2⟩ => ⟨h2, h1⟩
    · refine ⟨one1 trivial, fun ρ w => ?_⟩
      have h := contains_any s w
      obtain ⟨i, hi⟩ := Classical.not_forall.1 hc
      obtain ⟨h1, h2⟩ := Classical.not_imp.1 hi
      have e : decide (0 ≤ Lib.idxFunc noDigit true s) = true := decide_eq_true (idx_some s _ 0 i (by omega) (Nat.zero_le _) h1 h2)
      rw [e] at h
      exact h.mono fun e w' ⟨h1, h2⟩ => ⟨h2, h1⟩
  · cases hl

end M
end Go.Proofs.YtmjdmhelmgcanaaDoor

/- num.Parse. -/
namespace Go.Proofs.YtmjdmhelmgcanaaDoor
namespace M
open Go.RowKit
set_option linter.unusedSimpArgs false
set_option linter.unusedVariables false

def tQ : List Entry := ⟨14, 0, pcon conK⟩ :: tabU
def nqS : List (Nat × Sv) := [(2, .one [.ptr 2 0]), (3, .one [.lit .i64 0]), (5, .one [.ptr 5 0]), (28, .one [.ptr 28 0])]
def nqH (s : ByteArray) (i x : Nat) : List (Nat × Bk) := [(2, .var [.big 4 0] 24), (5, .var [.big 4 x] 24), (28, .sit s i)]

theorem tQ_ok : TabOK tQ := .cons con_e tabU_ok

theorem nq_round {w0 : Base} {s : ByteArray} {i : Nat} (hi : i < s.size) (hs : s.size < 1000) (hd : dig1 s i) (hx : dv s i < TOP) :
    Goes Tryd.prog Tryd.f6.ntmps w0 [.code (roundOf 0 (bodyOf Tryd.f6))] .norm (kn nqS (nqH s i (dv s i))) fun k' o σ => k' = [] ∧
      ((o = .norm ∧ dv s (i + 1) < TOP ∧ σ = kn nqS (nqH s (i + 1) (dv s (i + 1)))) ∨ (o = .ret ∧ TOP ≤ dv s (i + 1) ∧ σ = kn (paR 2) paH)) := by
  obtain ⟨d1, d2⟩ := hd
  have ht := top_eq
  obtain ⟨c, hc⟩ : ∃ c, c = byteAt s i - 48 := ⟨_, rfl⟩
  have hcc : (((byteAt s i : Nat) : Int) - 48).toNat = c := by omega
  have hdv : dv s (i + 1) = dv s i * 10 + c := by rw [hc]; rfl
  by_cases h1 : dv s i * 10 < TOP
  · by_cases h2 : dv s i * 10 + c < TOP
    · refine (goes (ctx_ok tQ_ok 54) mixed rfl (gs := []) (gh := []) (orc := way []) (stops := []) (f := 3000) (k := [.code (roundOf 0 (bodyOf Tryd.f6))]) (o := .norm) (σ := (kn nqS (nqH s i (dv s i)))) (cs := [i < ByteArray.size s ∧ byteAt s i < (128 : Nat), True, True, True, True, True, (0 : Int) ≤ (10 : Int) ∧ (10 : Int) < (18446744073709551616 : Int), dv s i * 10 < TOP, True, True, True, True, True, True, True, True, True, (-2147483648 : Int) ≤ (↑(byteAt s i) : Int) - (48 : Int) ∧ (↑(byteAt s i) : Int) - (48 : Int) < (2147483648 : Int), (0 : Int) ≤ (↑(byteAt s i) : Int) - (48 : Int) ∧ (↑(byteAt s i) : Int) - (48 : Int) < (18446744073709551616 : Int), (0 : Int) ≤ (↑(byteAt s i) : Int) - (48 : Int) ∧ (↑(byteAt s i) : Int) - (48 : Int) < (18446744073709551616 : Int), dv s i * 10 + Int.toNat ((↑(byteAt s i) : Int) - (48 : Int)) < TOP, True, True, True, True, True, True, True]) (k' := []) (o' := .norm) (S := nqS) (H := (nqH s (i + 1) (dv s i * 10 + (((byteAt s i : Nat) : Int) - 48).toNat))) (by kernel_rfl) (by kernel_rfl) (by simp only [conj] <;> (repeat' apply And.intro) <;> first | trivial | assumption | omega | (simp [addO_eq]; done) | (simp [addO_eq]; omega))).mono ?_
      rintro k o σ ⟨rfl, rfl, rfl⟩
      exact ⟨rfl, .inl ⟨rfl, by rw [hdv]; exact h2, by rw [hdv, hcc]⟩⟩
    · refine (goes (ctx_ok tQ_ok 54) mixed rfl (gs := []) (gh := []) (orc := way [(46, 1)]) (stops := []) (f := 3000) (k := [.code (roundOf 0 (bodyOf Tryd.f6))]) (o := .norm) (σ := (kn nqS (nqH s i (dv s i)))) (cs := [i < ByteArray.size s ∧ byteAt s i < (128 : Nat), True, True, True, True, True, (0 : Int) ≤ (10 : Int) ∧ (10 : Int) < (18446744073709551616 : Int), dv s i * 10 < TOP, True, True, True, True, True, True, True, True, True, (-2147483648 : Int) ≤ (↑(byteAt s i) : Int) - (48 : Int) ∧ (↑(byteAt s i) : Int) - (48 : Int) < (2147483648 : Int), (0 : Int) ≤ (↑(byteAt s i) : Int) - (48 : Int) ∧ (↑(byteAt s i) : Int) - (48 : Int) < (18446744073709551616 : Int), (0 : Int) ≤ (↑(byteAt s i) : Int) - (48 : Int) ∧ (↑(byteAt s i) : Int) - (48 : Int) < (18446744073709551616 : Int), TOP ≤ dv s i * 10 + Int.toNat ((↑(byteAt s i) : Int) - (48 : Int)), True, True, True, True, True, True, True, True, True, True, True]) (k' := []) (o' := .ret) (S := (paR 2)) (H := paH) (by kernel_rfl) (by kernel_rfl) (by simp only [conj] <;> (repeat' apply And.intro) <;> first | trivial | assumption | omega | (simp [addO_eq]; done) | (simp [addO_eq]; omega))).mono ?_
      rintro k o σ ⟨rfl, rfl, rfl⟩
      exact ⟨rfl, .inr ⟨rfl, by rw [hdv]; omega, rfl⟩⟩
  · refine (goes (ctx_ok tQ_ok 54) mixed rfl (gs := []) (gh := []) (orc := way [(35, 1)]) (stops := []) (f := 3000) (k := [.code (roundOf 0 (bodyOf Tryd.f6))]) (o := .norm) (σ := (kn nqS (nqH s i (dv s i)))) (cs := [i < ByteArray.size s ∧ byteAt s i < (128 : Nat), True, True, True, True, True, (0 : Int) ≤ (10 : Int) ∧ (10 : Int) < (18446744073709551616 : Int), TOP ≤ dv s i * 10, True, True, True, True, True, True, True, True, True, True, True, True, True]) (k' := []) (o' := .ret) (S := (paR 2)) (H := paH) (by kernel_rfl) (by kernel_rfl) (by simp only [conj] <;> (repeat' apply And.intro) <;> first | trivial | assumption | omega | (simp [addO_eq]; done) | (simp [addO_eq]; omega))).mono ?_
    rintro k o σ ⟨rfl, rfl, rfl⟩
    exact ⟨rfl, .inr ⟨rfl, by rw [hdv]; omega, rfl⟩⟩

theorem npa_rest {w0 : Base} {s : ByteArray} (hs : s.size < 1000) (hf : frm s) :
    Goes Tryd.prog Tryd.f6.ntmps w0 (kOf 0 (bodyOf Tryd.f6)) .norm (kn nqS (nqH s 0 0)) (Fin (ctx tQ 54) Tryd.f6.results.toList fun v _ => PsR s v) := by
  have hk : kOf 0 (bodyOf Tryd.f6) = .code (.block 0 (.loop (roundOf 0 (bodyOf Tryd.f6)))) :: restOf 0 (bodyOf Tryd.f6) := by kernel_rfl
  rw [hk]
  refine (goes_loop (fun i : Nat => kn nqS (nqH s i (dv s i))) (fun i => i ≤ s.size ∧ dv s i < TOP) (fun i => s.size - i)
    (fun o σ => (o = .norm ∧ dv s s.size < TOP ∧ σ = kn nqS (nqH s s.size (dv s s.size))) ∨ (o = .ret ∧ TOP ≤ dv s s.size ∧ σ = kn (paR 2) paH)) ?_ (p := 0) ⟨Nat.zero_le _, top_pos⟩).bind ?_
  · rintro i ⟨hle, hlt⟩
    by_cases hi : i < s.size
    · refine (nq_round hi hs (hf.2.2 i hi) hlt).mono ?_
      rintro k o σ ⟨rfl, ⟨rfl, h, rfl⟩ | ⟨rfl, h, rfl⟩⟩
      · exact ⟨rfl, .inl ⟨rfl, i + 1, ⟨hi, h⟩, by omega, rfl⟩⟩
      · refine ⟨rfl, .inr ⟨by simp, .inr ⟨rfl, ?_, rfl⟩⟩⟩
        have := dv_mono s (i + 1) (s.size - (i + 1))
        rw [show i + 1 + (s.size - (i + 1)) = s.size by omega] at this
        exact Nat.le_trans h this
    · obtain rfl : i = s.size := by omega
      refine (goes (ctx_ok tQ_ok 54) mixed rfl (gs := []) (gh := []) (orc := way [(29, 1)]) (stops := []) (f := 3000) (k := [.code (roundOf 0 (bodyOf Tryd.f6))]) (o := .norm) (σ := (kn nqS (nqH s s.size (dv s s.size)))) (cs := [¬ByteArray.size s < ByteArray.size s, True]) (k' := []) (o' := (.exit 0)) (S := nqS) (H := (nqH s s.size (dv s s.size))) (by kernel_rfl) (by kernel_rfl) (by simp only [conj] <;> (repeat' apply And.intro) <;> first | trivial | assumption | omega | (simp [addO_eq]; done) | (simp [addO_eq]; omega))).mono ?_
      rintro k o σ ⟨rfl, rfl, rfl⟩
      exact ⟨rfl, .inr ⟨by simp, .inl ⟨rfl, hlt, rfl⟩⟩⟩
  · rintro k o σ ⟨rfl, ⟨rfl, h, rfl⟩ | ⟨rfl, h, rfl⟩⟩
    · exact goes_ret (ctx_ok tQ_ok 54) mixed rfl (orc := way []) (stops := []) (f := 3000) (k := (restOf 0 (bodyOf Tryd.f6))) (o := .norm) (σ := (kn nqS (nqH s s.size (dv s s.size)))) (cs := [True, True, True]) (o' := .ret) (rs := Tryd.f6.results.toList) (v := (.tup [N (dv s s.size), E 0])) (H := ([] : List (Nat × Bk))) (by kernel_rfl) (.inr rfl) (by simp only [conj] <;> (repeat' apply And.intro) <;> first | trivial | assumption | omega | (simp [addO_eq]; done) | (simp [addO_eq]; omega)) fun _ _ => .inl ⟨hf, h, rfl⟩
    · exact goes_ret (ctx_ok tQ_ok 54) mixed rfl (orc := way []) (stops := []) (f := 3000) (k := (restOf 0 (bodyOf Tryd.f6))) (o := .ret) (σ := (kn (paR 2) paH)) (cs := []) (o' := .ret) (rs := Tryd.f6.results.toList) (v := (.tup [N 0, E 2])) (H := ([] : List (Nat × Bk))) (by kernel_rfl) (.inr rfl) (by simp only [conj] <;> (repeat' apply And.intro) <;> first | trivial | assumption | omega | (simp [addO_eq]; done) | (simp [addO_eq]; omega)) fun _ _ => .inr (.inl ⟨hf, h, rfl⟩)

theorem nparse_goes {w0 : Base} {s : ByteArray} (hs : s.size < 1000) :
    Goes Tryd.prog Tryd.f6.ntmps w0 [.code (bodyOf Tryd.f6)] .norm (kn (argS 0 [.one [.str s]]) []) (Fin (ctx tQ 54) Tryd.f6.results.toList fun v _ => PsR s v) := by
  by_cases hE : s = ByteArray.empty
  · have hz : s.size = 0 := by rw [hE]; rfl
    exact goes_ret (ctx_ok tQ_ok 54) mixed rfl (orc := way []) (stops := []) (f := 3000) (k := [.code (bodyOf Tryd.f6)]) (o := .norm) (σ := (kn (argS 0 [.one [.str s]]) [])) (cs := [True, True, True, True, s = (ByteArray.mk #[]), True, True, True, True, True, True, True, True, True, True, True, True, True, True, True, True, True, True]) (o' := .ret) (rs := Tryd.f6.results.toList) (v := (.tup [N 0, E 4])) (H := ([] : List (Nat × Bk))) (by kernel_rfl) (.inr rfl) (by simp only [conj] <;> (repeat' apply And.intro) <;> first | trivial | assumption | omega | (simp [addO_eq]; done) | (simp [addO_eq]; omega)) fun _ _ => .inr (.inr ⟨fun hf => by have := hf.1; omega, rfl⟩)
  · have h0 : 0 < s.size := by
      rcases Nat.eq_zero_or_pos s.size with h | h
      · exact absurd (ByteArray.ext (Array.eq_empty_of_size_eq_zero h)) hE
      · exact h
    by_cases hd : ∀ i, i < s.size → dig1 s i
    · by_cases h2 : 1 < s.size
      · by_cases h1 : byteAt s 0 = 48
        · skip
          exact goes_ret (ctx_ok tQ_ok 54) mixed rfl (orc := way [(10, 1)]) (stops := []) (f := 3000) (k := [.code (bodyOf Tryd.f6)]) (o := .norm) (σ := (kn (argS 0 [.one [.str s]]) [])) (cs := [True, True, True, True, ¬s = (ByteArray.mk #[]), True, True, True, ∀ (i : Nat), i < ByteArray.size s → dig1 s i, True, True, True, True, (1 : Int) < (↑(ByteArray.size s) : Int), True, True, (0 : Int) ≤ (0 : Int) ∧ (0 : Int) < (↑(ByteArray.size s) : Int), (↑(byteAt s (0)) : Int) = (48 : Int), True, True, True, True, True]) (o' := .ret) (rs := Tryd.f6.results.toList) (v := (.tup [N 0, E 4])) (H := ([] : List (Nat × Bk))) (by kernel_rfl) (.inr rfl) (by simp only [conj] <;> (repeat' apply And.intro) <;> first | trivial | assumption | omega | (simp [addO_eq]; done) | (simp [addO_eq]; omega)) fun _ _ => .inr (.inr ⟨fun hf => hf.2.1 ⟨h2, h1⟩, rfl⟩)
        · skip
          refine (goes (ctx_ok tQ_ok 54) mixed rfl (gs := []) (gh := []) (orc := way [(10, 1), (23, 1)]) (stops := [0]) (f := 3000) (k := [.code (bodyOf Tryd.f6)]) (o := .norm) (σ := (kn (argS 0 [.one [.str s]]) [])) (cs := [True, True, True, True, ¬s = (ByteArray.mk #[]), True, True, True, ∀ (i : Nat), i < ByteArray.size s → dig1 s i, True, True, True, True, (1 : Int) < (↑(ByteArray.size s) : Int), True, True, (0 : Int) ≤ (0 : Int) ∧ (0 : Int) < (↑(ByteArray.size s) : Int), ¬(↑(byteAt s (0)) : Int) = (48 : Int), True, True, True, True, True]) (k' := (kOf 0 (bodyOf Tryd.f6))) (o' := .norm) (S := nqS) (H := (nqH s 0 0)) (by kernel_rfl) (by kernel_rfl) (by simp only [conj] <;> (repeat' apply And.intro) <;> first | trivial | assumption | omega | (simp [addO_eq]; done) | (simp [addO_eq]; omega))).bind ?_
          rintro k o σ ⟨rfl, rfl, rfl⟩
          exact npa_rest hs ⟨h0, by omega, hd⟩
      · skip
        refine (goes (ctx_ok tQ_ok 54) mixed rfl (gs := []) (gh := []) (orc := way [(10, 1), (19, 1)]) (stops := [0]) (f := 3000) (k := [.code (bodyOf Tryd.f6)]) (o := .norm) (σ := (kn (argS 0 [.one [.str s]]) [])) (cs := [True, True, True, True, ¬s = (ByteArray.mk #[]), True, True, True, ∀ (i : Nat), i < ByteArray.size s → dig1 s i, True, True, True, True, ¬(1 : Int) < (↑(ByteArray.size s) : Int), True, True, True, True, True, True, True, True, True]) (k' := (kOf 0 (bodyOf Tryd.f6))) (o' := .norm) (S := nqS) (H := (nqH s 0 0)) (by kernel_rfl) (by kernel_rfl) (by simp only [conj] <;> (repeat' apply And.intro) <;> first | trivial | assumption | omega | (simp [addO_eq]; done) | (simp [addO_eq]; omega))).bind ?_
        rintro k o σ ⟨rfl, rfl, rfl⟩
        exact npa_rest hs ⟨h0, by omega, hd⟩
    · skip
      exact goes_ret (ctx_ok tQ_ok 54) mixed rfl (orc := way [(10, 1), (14, 1)]) (stops := []) (f := 3000) (k := [.code (bodyOf Tryd.f6)]) (o := .norm) (σ := (kn (argS 0 [.one [.str s]]) [])) (cs := [True, True, True, True, ¬s = (ByteArray.mk #[]), True, True, True, ¬∀ (i : Nat), i < ByteArray.size s → dig1 s i, True, True, True, True, True, True, True, True, True, True, True, True, True, True]) (o' := .ret) (rs := Tryd.f6.results.toList) (v := (.tup [N 0, E 4])) (H := ([] : List (Nat × Bk))) (by kernel_rfl) (.inr rfl) (by simp only [conj] <;> (repeat' apply And.intro) <;> first | trivial | assumption | omega | (simp [addO_eq]; done) | (simp [addO_eq]; omega)) fun _ _ => .inr (.inr ⟨fun hf => hd hf.2.2, rfl⟩)

end M
end Go.Proofs.YtmjdmhelmgcanaaDoor

/- num.Parse and r01.Parse as contracts. -/
namespace Go.Proofs.YtmjdmhelmgcanaaDoor
namespace M
open Go.RowKit

def psK : PCon
  | [[.str s]] => some [(s.size < 1000 ∧ frm s ∧ dv s s.size < TOP, .tup [N (dv s s.size), E 0]), (s.size < 1000 ∧ frm s ∧ TOP ≤ dv s s.size, .tup [N 0, E 2]), (s.size < 1000 ∧ ¬ frm s, .tup [N 0, E 4])]
  | _ => none

theorem psR_1 {s : ByteArray} {v : Sv} (h : PsR s v) (h1 : frm s) (h2 : dv s s.size < TOP) : v = .tup [N (dv s s.size), E 0] := by
  rcases h with h | h | h
  · exact h.2.2
  · exact absurd h2 (Nat.not_lt.2 h.2.1)
  · exact absurd h1 h.1
theorem psR_2 {s : ByteArray} {v : Sv} (h : PsR s v) (h1 : frm s) (h2 : TOP ≤ dv s s.size) : v = .tup [N 0, E 2] := by
  rcases h with h | h | h
  · exact absurd h.2.1 (Nat.not_lt.2 h2)
  · exact h.2.2
  · exact absurd h1 h.1
theorem psR_3 {s : ByteArray} {v : Sv} (h : PsR s v) (h1 : ¬ frm s) : v = .tup [N 0, E 4] := by
  rcases h with h | h | h
  · exact absurd h.1 h1
  · exact absurd h.1 h1
  · exact h.2

theorem str_plain (s : ByteArray) : ∀ l ∈ ([[.str s]] : List (List Av)), ∀ a ∈ l, a.plain := fun l hl a ha => by
  simp only [List.mem_singleton] at hl
  subst hl
  simp only [List.mem_singleton] at ha
  subst ha
  trivial

theorem ps_e {f : Nat} {fn : Func} {nt : Nat} {tab : List Entry} (ht : TabOK tab) (hcall : ∀ args w, (callFunc f args).run Tryd.prog w = .ok (.enter f args) w) (hf : Tryd.prog.funcs[f]? = some fn) {c : Code} (hb : fn.body = some c) (hn : fn.ntmps = nt) (h1 : 1 ≤ fn.ntmps)
    (hg : ∀ (s : ByteArray), s.size < 1000 → ∀ w0, Goes Tryd.prog fn.ntmps w0 [.code c] .norm (kn (argS 0 [.one [.str s]]) []) (Fin (ctx tab nt) fn.results.toList fun v _ => PsR s v)) : EOK ⟨f, 0, pcon psK⟩ := by
  refine pcon_ok hcall fun args l hl ha p hp hc => ?_
  unfold psK at hl
  split at hl
  · rename_i s
    cases hl
    have key : ∀ v : Sv, v.all Av.plain → s.size < 1000 → (∀ v', PsR s v' → v' = v) → ∀ ρ w, Calls Tryd.prog f (([[.str s]] : List (List Av)).map (denL ρ)).toArray w fun e w' => Below w.heap.size w w' ∧ e = .returned (v.den ρ) := fun v hv hs hw ρ w =>
      pure_calls' (ctx_ok ht nt) hf hb hn.symm (args := [[.str s]]) h1 (str_plain s) hv (fun w0 => (hg s hs w0).mono fun k o σ hz => ⟨hz.1, hz.2.1, hz.2.2.choose, hz.2.2.choose_spec.1, hw _ hz.2.2.choose_spec.2⟩) ρ w
    simp only [List.mem_cons, List.not_mem_nil, or_false] at hp
    rcases hp with rfl | rfl | rfl
    · have hpl : (Sv.tup [N (dv s s.size), E 0]).all Av.plain := plain2 hc.2.2 (E_plain _)
      exact ⟨hpl, fun ρ w => key _ hpl hc.1 (fun v' h => psR_1 h hc.2.1 hc.2.2) ρ w⟩
    · have hpl : (Sv.tup [N 0, E 2]).all Av.plain := plain2 top_pos (E_plain _)
      exact ⟨hpl, fun ρ w => key _ hpl hc.1 (fun v' h => psR_2 h hc.2.1 hc.2.2) ρ w⟩
    · have hpl : (Sv.tup [N 0, E 4]).all Av.plain := plain2 top_pos (E_plain _)
      exact ⟨hpl, fun ρ w => key _ hpl hc.1 (fun v' h => psR_3 h hc.2) ρ w⟩
  · cases hl

theorem nparse_e : EOK ⟨6, 0, pcon psK⟩ := ps_e tQ_ok (fun a w => Tryd.call6 a w) Tryd.func6 (c := bodyOf Tryd.f6) rfl rfl (Nat.le_of_ble_eq_true (by kernel_rfl)) fun s hs w0 => nparse_goes hs
theorem rparse_e : EOK ⟨9, 0, pcon psK⟩ := ps_e tP_ok (fun a w => Tryd.call9 a w) Tryd.func9 (c := bodyOf Tryd.f9) rfl rfl (Nat.le_of_ble_eq_true (by kernel_rfl)) fun s hs w0 => rparse_goes hs

end M
end Go.Proofs.YtmjdmhelmgcanaaDoor
