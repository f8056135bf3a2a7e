/- Joined out of smaller texts: Par, Byt, Hal, NL. -/
import Derived.Test.YtmjdmhelmgcanaaQF
import Derived.Shelf.Strings.FuncGrows
import Derived.Test.YtmjdmhelmgcanaaQI
/- num.Parse of a text that begins with a nought. -/
namespace Go.Proofs.Ytmjdmhelmgcanaa
open Go.RowKit Go.Shelf

def renPar : Ren := { f := fun n => if n = 15 then 119 else if n = 17 then 113 else 120, t := fun n => if n = 23 then 114 else n, g := fun n => n }
theorem laysPar : LaysGw.n17 Try.prog renPar where
  mixed := by kernel_rfl
  f15 := by kernel_rfl
  f17 := by kernel_rfl
  f20 := by kernel_rfl
  t0 := Try.underlying0
  a0 := Try.isAgg0
  z0 := Try.sizeOf0
  v0 := Try.zeroValue0
  i0 := by kernel_rfl
  t3 := Try.underlying3
  a3 := Try.isAgg3
  z3 := Try.sizeOf3
  v3 := Try.zeroValue3
  i3 := by kernel_rfl
  t4 := Try.underlying4
  a4 := Try.isAgg4
  z4 := Try.sizeOf4
  v4 := Try.zeroValue4
  i4 := by kernel_rfl
  t9 := Try.underlying9
  a9 := Try.isAgg9
  z9 := Try.sizeOf9
  v9 := Try.zeroValue9
  i9 := by kernel_rfl
  t21 := Try.underlying21
  a21 := Try.isAgg21
  z21 := Try.sizeOf21
  v21 := Try.zeroValue21
  i21 := by kernel_rfl
  t23 := Try.underlying114
  a23 := Try.isAgg114
  z23 := Try.sizeOf114
  v23 := Try.zeroValue114
  i23 := by kernel_rfl

/-- no digit -/
def noDigit (x : Nat) : Bool := decide (x < 48) || decide (57 < x)

theorem noDigit_calls (x : Nat) (w : World) : Calls Try.prog 112 #[.int .i32 x] w fun e w' => e = .returned (.bool (noDigit x)) ∧ Below w.heap.size w w' := by
  have e1 : (decide ((x : Int) < 48) || decide (57 < (x : Int))) = noDigit x := by
    unfold noDigit
    congr 1 <;> (rw [decide_eq_decide]; omega)
  rw [← e1]
  go_enter Try.func112, Try.ntmps112
  by_cases h : (x : Int) < 48
  · have e2 : noDigit x = true := by rw [← e1]; simp [h]
    rw [e1, e2]
    go_wp2
    go_ret
    exact ⟨rfl, Below.refl _ _⟩
  · have e2 : noDigit x = decide (57 < (x : Int)) := by rw [← e1]; simp [h]
    rw [e1, e2]
    go_wp2
    go_ret
    exact ⟨rfl, Below.refl _ _⟩

theorem zeroes_idx : Lib.idxFunc noDigit true ⟨#[48, 48, 55]⟩ = -1 := by kernel_rfl

theorem contains_calls (w : World) : Calls Try.prog 113 #[.string ⟨#[48, 48, 55]⟩, .func (.func 112) #[] #[]] w fun e w' => e = .returned (.bool false) ∧ Below w.heap.size w w' := by
  have h := Any.strings_ContainsFunc_grows laysPar 112 #[] (fun a w => Try.call112 a w) noDigit ⟨#[48, 48, 55]⟩ w (fun W x _ _ => noDigit_calls x W)
  rw [zeroes_idx] at h
  exact h

set_option maxHeartbeats 1000000 in
theorem parse_calls (w : World) : Calls Try.prog 100 #[.string ⟨#[48, 48, 55]⟩] w fun e w' => e = .returned (.tuple #[V4 0 0 0 0, .int .i64 4]) ∧ Below w.heap.size w w' := by
  unfold V4
  go_enter Try.func100, Try.ntmps100
  go_wp2_with (go_at_fn 113; fail)
  refine (contains_calls _).mono ?_
  rintro e w1 ⟨rfl, hb⟩
  obtain ⟨q0, q1, q2, q3, hz⟩ := cells4 ((hb.block w.heap.size (by simp)).trans (heap_alloc_new w _))
  have z0 := hz 0
  have z1 := hz 1
  have z2 := hz 2
  have z3 := hz 3
  go_wp2
  refine bodyPost_ret (v := .tuple #[.agg #[.int .u64 0, .int .u64 0, .int .u64 0, .int .u64 0], .int .i64 4]) (by simp [results, Try.results100, go_sem, q0, q1, q2, q3]) rfl ⟨rfl, ?_⟩
  have hB : Below w.heap.size w w1 := ((Below.refl w.heap.size w).alloc (Nat.le_refl _) _).trans (hb.mono (by simp))
  repeat (first | exact hB | refine Below.setCell ?_ (by simp) _)

end Go.Proofs.Ytmjdmhelmgcanaa

/- num.Bytes, r01.Bytes, r01.Same. -/
namespace Go.Proofs.Ytmjdmhelmgcanaa
namespace M
open Go.RowKit
set_option linter.unusedSimpArgs false

/-- a row of bytes -/
def row8 (F : Nat → Nat) : Nat → List Av := fun i => [.int .u8 (F i : Nat)]
def btS (i : Int) (v : Av) : List (Nat × Sv) := [(1, .one [.ptr 1 0]), (3, .one [v]), (4, .one [.int .i64 i])]
def btH (x : Nat) : List (Nat × Bk) := [(1, .var [.big 4 x] 28)]
def btH2 (x n : Nat) (F : Nat → Nat) : List (Nat × Bk) := [(1, .var [.big 4 x] 28), (500, .row true 5 1 n (row8 F))]
def btW (x m : Nat) : Nat := lm x (m / 8) / 2 ^ (8 * (m % 8)) % 256
def btG (F : Nat → Nat) (n b : Nat) : Nat → List Av := fun i => bif Nat.blt i n then row8 F i else getL [[.int .u8 (b : Nat)]] (0 + (i - n))
def btG0 (b : Nat) : Nat → List Av := fun i => getL [[.int .u8 (b : Nat)]] (0 + i)
/-- how many bytes -/
def nb (y : Nat) : Nat := if h : y = 0 then 0 else nb (y / 256) + 1
  termination_by y
  decreasing_by omega
/-- the bytes, the highest first -/
def bys (y j : Nat) : Nat := y / 256 ^ (nb y - 1 - j) % 256

theorem wrap8 (n : Nat) : IntKind.u8.wrap (n : Int) = ((n % 256 : Nat) : Int) := rfl

theorem bt_A {w0 : Base} {x m : Nat} (hm : m < 32) (hz : btW x m = 0) :
    Goes Try.prog Try.f81.ntmps w0 [.code (roundOf 0 (bodyOf Try.f81))] .norm (kn (btS (m : Int) .nil) (btH x)) fun k o σ => k = [] ∧ o = .norm ∧ σ = kn (btS ((m : Int) - 1) .nil) (btH x) := by
  have hz' : lm x (m / 8) / 2 ^ (8 * (m % 8)) % 256 = 0 := hz
  exact goes (ctx_ok tabU_ok 31) mixed rfl (gs := []) (gh := []) (orc := way [(18, 1), (20, 1), (24, 1)]) (stops := []) (f := 3000) (k := [.code (roundOf 0 (bodyOf Try.f81))]) (o := .norm) (σ := (kn (btS (m : Int) .nil) (btH x))) (cs := [True, (0 : Int) ≤ (↑m : Int), True, (0 : Int) ≤ (↑m : Int) ∧ (-9223372036854775808 : Int) ≤ (↑m : Int) / (8 : Int) ∧ (↑m : Int) / (8 : Int) < (9223372036854775808 : Int), (0 : Int) ≤ (↑m : Int) / (8 : Int) ∧ (↑m : Int) / (8 : Int) < (↑(4 : Nat) : Int), m / 8 < (4 : Nat), True, (0 : Int) ≤ (↑m : Int), (-9223372036854775808 : Int) ≤ (8 : Int) * ((↑m : Int) % (8 : Int)) ∧ (8 : Int) * ((↑m : Int) % (8 : Int)) < (9223372036854775808 : Int), (0 : Int) ≤ (↑(lm x (m / 8)) : Int) ∧ (0 : Int) ≤ (8 : Int) * ((↑m : Int) % (8 : Int)) ∧ (8 : Int) * ((↑m : Int) % (8 : Int)) < (64 : Int), True, True, True, ¬IntKind.wrap IntKind.u8 (↑(lm x (m / 8) / (2 : Nat) ^ (8 * (m % 8))) : Int) ≠ (0 : Int), True, True, True, True, True, True, (-9223372036854775808 : Int) ≤ (↑m : Int) - (1 : Int) ∧ (↑m : Int) - (1 : Int) < (9223372036854775808 : Int), True]) (k' := []) (o' := .norm) (S := (btS ((m : Int) - 1) .nil)) (H := (btH x)) (by kernel_rfl) (by kernel_rfl) (by simp only [conj, and_true, true_and, addO_eq, Nat.zero_add, Int.toNat_natCast, wrap8, hz']; omega)
theorem bt_B {w0 : Base} {x m : Nat} (hm : m < 32) (hz : btW x m ≠ 0) :
    Goes Try.prog Try.f81.ntmps w0 [.code (roundOf 0 (bodyOf Try.f81))] .norm (kn (btS (m : Int) .nil) (btH x)) fun k o σ => k = [] ∧ o = .norm ∧ σ = kn (btS ((m : Int) - 1) (.sl 29 1 0 1)) [(1, .var [.big 4 x] 28), (29, .row true 5 1 1 (btG0 (btW x m)))] := by
  have hz' : lm x (m / 8) / 2 ^ (8 * (m % 8)) % 256 ≠ 0 := hz
  exact goes (ctx_ok tabU_ok 31) mixed rfl (gs := []) (gh := []) (orc := way [(18, 1)]) (stops := []) (f := 3000) (k := [.code (roundOf 0 (bodyOf Try.f81))]) (o := .norm) (σ := (kn (btS (m : Int) .nil) (btH x))) (cs := [True, (0 : Int) ≤ (↑m : Int), True, (0 : Int) ≤ (↑m : Int) ∧ (-9223372036854775808 : Int) ≤ (↑m : Int) / (8 : Int) ∧ (↑m : Int) / (8 : Int) < (9223372036854775808 : Int), (0 : Int) ≤ (↑m : Int) / (8 : Int) ∧ (↑m : Int) / (8 : Int) < (↑(4 : Nat) : Int), m / 8 < (4 : Nat), True, (0 : Int) ≤ (↑m : Int), (-9223372036854775808 : Int) ≤ (8 : Int) * ((↑m : Int) % (8 : Int)) ∧ (8 : Int) * ((↑m : Int) % (8 : Int)) < (9223372036854775808 : Int), (0 : Int) ≤ (↑(lm x (m / 8)) : Int) ∧ (0 : Int) ≤ (8 : Int) * ((↑m : Int) % (8 : Int)) ∧ (8 : Int) * ((↑m : Int) % (8 : Int)) < (64 : Int), True, True, True, IntKind.wrap IntKind.u8 (↑(lm x (m / 8) / (2 : Nat) ^ (8 * (m % 8))) : Int) ≠ (0 : Int), True, True, True, True, True, True, True, True, (0 : Nat) < (1 : Nat) ∧ (0 : Nat) + (1 : Nat) ≤ (1 : Nat) ∧ (1 : Nat) * (1 : Nat) ≤ (140737488355328 : Nat), True, True, (-9223372036854775808 : Int) ≤ (↑m : Int) - (1 : Int) ∧ (↑m : Int) - (1 : Int) < (9223372036854775808 : Int), True]) (k' := []) (o' := .norm) (S := (btS ((m : Int) - 1) (.sl 29 1 0 1))) (H := [(1, .var [.big 4 x] 28), (29, .row true 5 1 1 (btG0 (btW x m)))]) (by kernel_rfl) (by kernel_rfl) (by simp only [conj, and_true, true_and, addO_eq, Nat.zero_add, Int.toNat_natCast, wrap8]; omega)
theorem bt_C {w0 : Base} {x m n : Nat} {F : Nat → Nat} (hm : m < 32) (hn : n < 40) (hn0 : 0 < n) :
    Goes Try.prog Try.f81.ntmps w0 [.code (roundOf 0 (bodyOf Try.f81))] .norm (kn (btS (m : Int) (.sl 500 1 0 n)) (btH2 x n F)) fun k o σ => k = [] ∧ o = .norm ∧ σ = kn (btS ((m : Int) - 1) (.sl 29 1 0 (n + 1))) [(1, .var [.big 4 x] 28), (29, .row true 5 1 (n + 1) (btG F n (btW x m)))] := by
  by_cases hz : btW x m = 0
  · have hz' : lm x (m / 8) / 2 ^ (8 * (m % 8)) % 256 = 0 := hz
    exact goes (ctx_ok tabU_ok 31) mixed rfl (gs := []) (gh := []) (orc := way [(18, 1), (20, 1)]) (stops := []) (f := 3000) (k := [.code (roundOf 0 (bodyOf Try.f81))]) (o := .norm) (σ := (kn (btS (m : Int) (.sl 500 1 0 n)) (btH2 x n F))) (cs := [True, (0 : Int) ≤ (↑m : Int), True, (0 : Int) ≤ (↑m : Int) ∧ (-9223372036854775808 : Int) ≤ (↑m : Int) / (8 : Int) ∧ (↑m : Int) / (8 : Int) < (9223372036854775808 : Int), (0 : Int) ≤ (↑m : Int) / (8 : Int) ∧ (↑m : Int) / (8 : Int) < (↑(4 : Nat) : Int), m / 8 < (4 : Nat), True, (0 : Int) ≤ (↑m : Int), (-9223372036854775808 : Int) ≤ (8 : Int) * ((↑m : Int) % (8 : Int)) ∧ (8 : Int) * ((↑m : Int) % (8 : Int)) < (9223372036854775808 : Int), (0 : Int) ≤ (↑(lm x (m / 8)) : Int) ∧ (0 : Int) ≤ (8 : Int) * ((↑m : Int) % (8 : Int)) ∧ (8 : Int) * ((↑m : Int) % (8 : Int)) < (64 : Int), True, True, True, ¬IntKind.wrap IntKind.u8 (↑(lm x (m / 8) / (2 : Nat) ^ (8 * (m % 8))) : Int) ≠ (0 : Int), True, True, True, (0 : Int) < (↑n : Int), True, True, True, True, n = n ∧ (0 : Nat) < (1 : Nat) ∧ (0 : Nat) + (1 : Nat) ≤ (1 : Nat) ∧ (n + (1 : Nat)) * (1 : Nat) ≤ (140737488355328 : Nat), True, True, (-9223372036854775808 : Int) ≤ (↑m : Int) - (1 : Int) ∧ (↑m : Int) - (1 : Int) < (9223372036854775808 : Int), True]) (k' := []) (o' := .norm) (S := (btS ((m : Int) - 1) (.sl 29 1 0 (n + 1)))) (H := [(1, .var [.big 4 x] 28), (29, .row true 5 1 (n + 1) (btG F n (btW x m)))]) (by kernel_rfl) (by kernel_rfl) (by simp only [conj, and_true, true_and, addO_eq, Nat.zero_add, Int.toNat_natCast, wrap8, hz']; omega)
  · have hz' : lm x (m / 8) / 2 ^ (8 * (m % 8)) % 256 ≠ 0 := hz
    exact goes (ctx_ok tabU_ok 31) mixed rfl (gs := []) (gh := []) (orc := way [(18, 1)]) (stops := []) (f := 3000) (k := [.code (roundOf 0 (bodyOf Try.f81))]) (o := .norm) (σ := (kn (btS (m : Int) (.sl 500 1 0 n)) (btH2 x n F))) (cs := [True, (0 : Int) ≤ (↑m : Int), True, (0 : Int) ≤ (↑m : Int) ∧ (-9223372036854775808 : Int) ≤ (↑m : Int) / (8 : Int) ∧ (↑m : Int) / (8 : Int) < (9223372036854775808 : Int), (0 : Int) ≤ (↑m : Int) / (8 : Int) ∧ (↑m : Int) / (8 : Int) < (↑(4 : Nat) : Int), m / 8 < (4 : Nat), True, (0 : Int) ≤ (↑m : Int), (-9223372036854775808 : Int) ≤ (8 : Int) * ((↑m : Int) % (8 : Int)) ∧ (8 : Int) * ((↑m : Int) % (8 : Int)) < (9223372036854775808 : Int), (0 : Int) ≤ (↑(lm x (m / 8)) : Int) ∧ (0 : Int) ≤ (8 : Int) * ((↑m : Int) % (8 : Int)) ∧ (8 : Int) * ((↑m : Int) % (8 : Int)) < (64 : Int), True, True, True, IntKind.wrap IntKind.u8 (↑(lm x (m / 8) / (2 : Nat) ^ (8 * (m % 8))) : Int) ≠ (0 : Int), True, True, True, True, True, True, True, True, n = n ∧ (0 : Nat) < (1 : Nat) ∧ (0 : Nat) + (1 : Nat) ≤ (1 : Nat) ∧ (n + (1 : Nat)) * (1 : Nat) ≤ (140737488355328 : Nat), True, True, (-9223372036854775808 : Int) ≤ (↑m : Int) - (1 : Int) ∧ (↑m : Int) - (1 : Int) < (9223372036854775808 : Int), True]) (k' := []) (o' := .norm) (S := (btS ((m : Int) - 1) (.sl 29 1 0 (n + 1)))) (H := [(1, .var [.big 4 x] 28), (29, .row true 5 1 (n + 1) (btG F n (btW x m)))]) (by kernel_rfl) (by kernel_rfl) (by simp only [conj, and_true, true_and, addO_eq, Nat.zero_add, Int.toNat_natCast, wrap8]; omega)

theorem nb_zero : nb 0 = 0 := by rw [nb]; simp
theorem nb_pos {y : Nat} (h : 0 < y) : nb y = nb (y / 256) + 1 := by
  rw [nb]; rw [dif_neg (by omega)]
theorem nb_step {y b : Nat} (hb : b < 256) (h : 0 < 256 * y + b) : nb (256 * y + b) = nb y + 1 := by
  rw [nb_pos h, show (256 * y + b) / 256 = y by omega]
theorem bys_step {y b j : Nat} (hb : b < 256) (h : 0 < 256 * y + b) (hj : j < nb y) : bys (256 * y + b) j = bys y j := by
  unfold bys
  rw [nb_step hb h, show nb y + 1 - 1 - j = (nb y - 1 - j) + 1 by omega, Nat.pow_succ, Nat.mul_comm (256 ^ _), ← Nat.div_div_eq_div_mul, show (256 * y + b) / 256 = y by omega]
theorem bys_last {y b : Nat} (hb : b < 256) (h : 0 < 256 * y + b) : bys (256 * y + b) (nb y) = b := by
  unfold bys
  rw [nb_step hb h, show nb y + 1 - 1 - nb y = 0 by omega, Nat.pow_zero, Nat.div_one]
  omega
theorem nb_le {y k : Nat} (h : y < 256 ^ k) : nb y ≤ k := by
  induction k generalizing y with
  | zero =>
    have e : y = 0 := by simpa using h
    subst e; rw [nb_zero]; omega
  | succ k ih =>
    rcases Nat.eq_zero_or_pos y with e | e
    · subst e; rw [nb_zero]; omega
    · rw [nb_pos e]
      have := ih (y := y / 256) ((Nat.div_lt_iff_lt_mul (by omega)).2 (by rw [← Nat.pow_succ]; exact h))
      omega

theorem btW_eq {x m : Nat} (_ : m < 32) : btW x m = x / 256 ^ m % 256 := by
  have e3 : (256 : Nat) ^ m = 18446744073709551616 ^ (m / 8) * 2 ^ (8 * (m % 8)) := by
    rw [word_pow, show (256 : Nat) = 2 ^ 8 from rfl, ← Nat.pow_mul]
    congr 1; omega
  have e2 : ∀ y k, k ≤ 56 → y % 18446744073709551616 / 2 ^ k % 256 = y / 2 ^ k % 256 := by
    intro y k hk
    have e : 18446744073709551616 = 2 ^ k * (256 * 2 ^ (56 - k)) := by
      rw [show (256 : Nat) = 2 ^ 8 from rfl, ← Nat.pow_add, ← Nat.pow_add, show k + (8 + (56 - k)) = 64 by omega]
    rw [e, Nat.mod_mul_right_div_self, Nat.mod_mul_right_mod]
  unfold btW
  rw [show lm x (m / 8) = x / 18446744073709551616 ^ (m / 8) % 18446744073709551616 from rfl, e2 _ _ (by omega), e3, ← Nat.div_div_eq_div_mul]

theorem row8_OK (F : Nat → Nat) (n : Nat) : RowOK 1 n (row8 F) := ⟨by omega, fun i _ => ⟨rfl, fun a ha => by simp only [row8, List.mem_singleton] at ha; subst ha; trivial⟩⟩

/-- the bytes that are written already -/
def btSt (x : Nat) (p : Int × Nat) : Ms := if p.2 = 0 then kn (btS p.1 .nil) (btH x) else kn (btS p.1 (.sl 500 1 0 (nb p.2))) (btH2 x (nb p.2) (bys p.2))

theorem bt_round {w0 : Base} {x m y : Nat} (hx : x < TOP) (hm : m < 32) (hy : y = x / 256 ^ (m + 1)) :
    Goes Try.prog Try.f81.ntmps w0 [.code (roundOf 0 (bodyOf Try.f81))] .norm (btSt x ((m : Int), y)) fun k o σ => k = [] ∧ o = .norm ∧ ∃ σ0, σ = σ0 ∧ ∀ {nt : Nat} {kk : List Fr} {Z : List Fr → Out → Ms → Prop}, Goes Try.prog nt w0 kk .norm (btSt x ((m : Int) - 1, x / 256 ^ m)) Z → Goes Try.prog nt w0 kk .norm σ0 Z := by
  have hb : btW x m < 256 := Nat.mod_lt _ (by omega)
  have hstep : x / 256 ^ m = 256 * y + btW x m := by
    rw [btW_eq hm, hy, Nat.pow_succ, ← Nat.div_div_eq_div_mul]
    omega
  have hle : y ≤ x := by rw [hy]; exact Nat.div_le_self _ _
  have hnb : nb y ≤ 32 := nb_le (Nat.lt_of_le_of_lt hle hx)
  rw [hstep]
  rcases Nat.eq_zero_or_pos y with e | e
  · have e1 : btSt x ((m : Int), y) = kn (btS (m : Int) .nil) (btH x) := by unfold btSt; rw [if_pos e]
    rw [e1]
    by_cases hz : btW x m = 0
    · refine (bt_A hm hz).mono ?_
      rintro k o σ ⟨rfl, rfl, rfl⟩
      refine ⟨rfl, rfl, _, rfl, fun g => ?_⟩
      have e2 : btSt x ((m : Int) - 1, 256 * y + btW x m) = kn (btS ((m : Int) - 1) .nil) (btH x) := by unfold btSt; rw [if_pos (by show 256 * y + btW x m = 0; omega)]
      rw [e2] at g
      exact g
    · refine (bt_B hm hz).mono ?_
      rintro k o σ ⟨rfl, rfl, rfl⟩
      refine ⟨rfl, rfl, _, rfl, fun g => ?_⟩
      have hp : 0 < 256 * y + btW x m := by omega
      have hn : nb (256 * y + btW x m) = 1 := by rw [nb_step hb hp, e, nb_zero]
      have e2 : btSt x ((m : Int) - 1, 256 * y + btW x m) = kn (btS ((m : Int) - 1) (.sl 500 1 0 1)) (btH2 x 1 (bys (256 * y + btW x m))) := by
        unfold btSt; rw [if_neg (by show ¬ 256 * y + btW x m = 0; omega)]
        simp only [hn]
      rw [e2] at g
      refine goes_name (a := 29) (b := 500) (by omega) (by omega) (by simp) ?_
      refine goes_sim (.same _ (.row (row8_OK (bys (256 * y + btW x m)) 1) ?_ .nil)) g
      refine rowC_congr fun i hi => ?_
      obtain rfl : i = 0 := by omega
      have := bys_last hb hp
      rw [e, nb_zero] at this
      simp only [row8, e]
      rw [this]; rfl
  · have e1 : btSt x ((m : Int), y) = kn (btS (m : Int) (.sl 500 1 0 (nb y))) (btH2 x (nb y) (bys y)) := by unfold btSt; rw [if_neg (by show ¬ y = 0; omega)]
    have hn0 : 0 < nb y := by rw [nb_pos e]; omega
    rw [e1]
    refine (bt_C hm (by omega) hn0).mono ?_
    rintro k o σ ⟨rfl, rfl, rfl⟩
    refine ⟨rfl, rfl, _, rfl, fun g => ?_⟩
    have hp : 0 < 256 * y + btW x m := by omega
    have e2 : btSt x ((m : Int) - 1, 256 * y + btW x m) = kn (btS ((m : Int) - 1) (.sl 500 1 0 (nb y + 1))) (btH2 x (nb y + 1) (bys (256 * y + btW x m))) := by
      unfold btSt; rw [if_neg (by show ¬ 256 * y + btW x m = 0; omega)]
      simp only [nb_step hb hp]
    rw [e2] at g
    refine goes_name (a := 29) (b := 500) (by omega) (by omega) (by simp) ?_
    refine goes_sim (.same _ (.row (row8_OK (bys (256 * y + btW x m)) (nb y + 1)) ?_ .nil)) g
    refine rowC_congr fun i hi => ?_
    unfold btG
    by_cases hi2 : i < nb y
    · have : Nat.blt i (nb y) = true := Nat.ble_eq_true_of_le hi2
      rw [this]
      simp only [row8, cond_true, bys_step hb hp hi2]
    · obtain rfl : i = nb y := by omega
      have : Nat.blt (nb y) (nb y) = false := by
        cases h : Nat.blt (nb y) (nb y) with
        | false => rfl
        | true => exact absurd (Nat.le_of_ble_eq_true h) (Nat.lt_irrefl _)
      rw [this]
      simp only [row8, cond_false, Nat.sub_self, bys_last hb hp]
      rfl

theorem goes_here {nt : Nat} {w0 : Base} {k : List Fr} {o : Out} {σ : Ms} {Z : List Fr → Out → Ms → Prop} (h : Z k o σ) : Goes Try.prog nt w0 k o σ Z := fun _ hQ ρ a w hr => hQ _ _ _ h ρ a w hr

theorem bytes_goes {w0 : Base} {x : Nat} (hx : x < TOP) : Goes Try.prog Try.f81.ntmps w0 [.code (bodyOf Try.f81)] .norm (kn (argS 0 [.one (N x)]) [])
    (Fin (ctx tabU 31) Try.f81.results.toList fun v σ => (x = 0 ∧ v = .one [.nil]) ∨ (0 < x ∧ v = .one [.sl 500 1 0 (nb x)] ∧ σ.heap 500 = some (.row true 5 1 (nb x) (row8 (bys x))))) := by
  refine (goes (ctx_ok tabU_ok 31) mixed rfl (gs := [4]) (gh := []) (orc := way []) (stops := [0]) (f := 3000) (k := [.code (bodyOf Try.f81)]) (o := .norm) (σ := (kn (argS 0 [.one (N x)]) [])) (cs := [True, True, True, True]) (k' := (kOf 0 (bodyOf Try.f81))) (o' := .norm) (S := (btS 31 .nil)) (H := (btH x)) (by kernel_rfl) (by kernel_rfl) (by simp [conj])).bind ?_
  rintro k o σ ⟨rfl, rfl, rfl⟩
  have hk : kOf 0 (bodyOf Try.f81) = .code (.block 0 (.loop (roundOf 0 (bodyOf Try.f81)))) :: restOf 0 (bodyOf Try.f81) := by kernel_rfl
  rw [hk]
  have hx0 : x / 256 ^ 32 = 0 := Nat.div_eq_of_lt hx
  refine (goes_loop (btSt x) (fun p => -1 ≤ p.1 ∧ p.1 ≤ 31 ∧ p.2 = x / 256 ^ (p.1 + 1).toNat) (fun p => (p.1 + 1).toNat) (fun o σ => o = .norm ∧ σ = btSt x (-1, x)) ?_ (p := (31, 0))
    ⟨by show -1 ≤ (31 : Int); omega, by show (31 : Int) ≤ 31; omega, hx0.symm⟩).bind ?_
  · rintro ⟨i, y⟩ ⟨h1, h2, h3⟩
    simp only at h1 h2 h3
    by_cases hi : i < 0
    · obtain rfl : i = -1 := by omega
      have e0 : ((-1 : Int) + 1).toNat = 0 := rfl
      rw [e0, Nat.pow_zero, Nat.div_one] at h3
      subst h3
      unfold btSt
      by_cases hz : y = 0
      · simp only [if_pos hz]
        refine (goes (ctx_ok tabU_ok 31) mixed rfl (gs := []) (gh := []) (orc := way [(7, 1)]) (stops := []) (f := 3000) (k := [.code (roundOf 0 (bodyOf Try.f81))]) (o := .norm) (σ := (kn (btS (-1) .nil) (btH y))) (cs := [True, ¬(0 : Int) ≤ (-1 : Int)]) (k' := []) (o' := (.exit 0)) (S := (btS (-1) .nil)) (H := (btH y)) (by kernel_rfl) (by kernel_rfl) (by simp [conj])).mono ?_
        rintro k o σ ⟨rfl, rfl, rfl⟩
        exact ⟨rfl, .inr ⟨by simp, rfl, rfl⟩⟩
      · simp only [if_neg hz]
        refine (goes (ctx_ok tabU_ok 31) mixed rfl (gs := []) (gh := []) (orc := way [(7, 1)]) (stops := []) (f := 3000) (k := [.code (roundOf 0 (bodyOf Try.f81))]) (o := .norm) (σ := (kn (btS (-1) (.sl 500 1 0 (nb y))) (btH2 y (nb y) (bys y)))) (cs := [True, ¬(0 : Int) ≤ (-1 : Int)]) (k' := []) (o' := (.exit 0)) (S := (btS (-1) (.sl 500 1 0 (nb y)))) (H := (btH2 y (nb y) (bys y))) (by kernel_rfl) (by kernel_rfl) (by simp [conj])).mono ?_
        rintro k o σ ⟨rfl, rfl, rfl⟩
        exact ⟨rfl, .inr ⟨by simp, rfl, rfl⟩⟩
    · obtain ⟨m, rfl⟩ := Int.eq_ofNat_of_zero_le (Int.not_lt.1 hi)
      have e1 : ((m : Int) + 1).toNat = m + 1 := by omega
      have e2 : ((m : Int) - 1 + 1).toNat = m := by omega
      rw [e1] at h3
      refine (bt_round hx (by omega) h3).bind ?_
      rintro k o σ ⟨rfl, rfl, σ0, rfl, g⟩
      refine g (goes_here ?_)
      exact ⟨rfl, .inl ⟨rfl, _, ⟨by show -1 ≤ (m : Int) - 1; omega, by show (m : Int) - 1 ≤ 31; omega, by show x / 256 ^ m = x / 256 ^ ((m : Int) - 1 + 1).toNat; rw [e2]⟩, by show ((m : Int) - 1 + 1).toNat < ((m : Int) + 1).toNat; omega, rfl⟩⟩
  · rintro k o σ ⟨rfl, rfl, rfl⟩
    unfold btSt
    by_cases hz : x = 0
    · simp only [if_pos hz]
      exact goes_ret (ctx_ok tabU_ok 31) mixed rfl (orc := way []) (stops := []) (f := 3000) (k := (restOf 0 (bodyOf Try.f81))) (o := .norm) (σ := (kn (btS (-1) .nil) (btH x))) (cs := [True, True]) (o' := .ret) (rs := Try.f81.results.toList) (v := (.one [.nil])) (H := ([] : List (Nat × Bk))) (by kernel_rfl) (.inr rfl) (by simp [conj]) fun _ _ => .inl ⟨hz, rfl⟩
    · simp only [if_neg hz]
      exact goes_ret (ctx_ok tabU_ok 31) mixed rfl (orc := way []) (stops := []) (f := 3000) (k := (restOf 0 (bodyOf Try.f81))) (o := .norm) (σ := (kn (btS (-1) (.sl 500 1 0 (nb x))) (btH2 x (nb x) (bys x)))) (cs := [True, True]) (o' := .ret) (rs := Try.f81.results.toList) (v := (.one [.sl 500 1 0 (nb x)])) (H := [(500, Bk.row true 5 1 (nb x) (row8 (bys x)))]) (by kernel_rfl) (.inr rfl) (by simp [conj]) fun σ hσ => .inr ⟨by omega, rfl, hσ (500, _) List.mem_cons_self⟩

end M
end Go.Proofs.Ytmjdmhelmgcanaa

/- num.Bytes, r01.Same, num.Parse as contracts; the law's halves. -/
namespace Go.Proofs.Ytmjdmhelmgcanaa
namespace M
open Go.RowKit
set_option linter.unusedSimpArgs false

def bytesC : Con
  | [[(.big 4 x, none)]] => some [⟨0 < x, fun d => .one [.sl d 1 0 (nb x)], fun d => .new d (.row true 5 1 (nb x) (row8 (bys x)))⟩, ⟨x = 0, fun _ => .one [.nil], fun _ => .nop⟩]
  | _ => none
def sameK : DCon
  | [[(.sl _ 1 0 n, some (.row _ 5 1 n1 f))], [(.sl _ 1 0 m, some (.row _ 5 1 m1 g))]] =>
    some [(n1 = n ∧ m1 = n ∧ m = n ∧ n < 64 ∧ ∃ F, rowC f n = rowC (row8 F) n ∧ rowC g n = rowC (row8 F) n, .one (B true))]
  | [[(.nil, _)], [(.nil, _)]] => some [(True, .one (B true))]
  | _ => none
def parK : PCon
  | [[.str s]] => some [(s = ⟨#[48, 48, 55]⟩, .tup [N 0, E 4])]
  | _ => none
def tH : List Entry := ⟨81, 0, bytesC⟩ :: ⟨83, 1, dcon sameK⟩ :: ⟨100, 0, pcon parK⟩ :: tabU
def smS (n i : Nat) : List (Nat × Sv) := [(0, .one [.sl 1000 1 0 n]), (1, .one [.sl 1001 1 0 n]), (5, .one [.int .i64 (i : Nat)])]
def smH (n : Nat) (F : Nat → Nat) : List (Nat × Bk) := [(1000, .row false 5 1 n (row8 F)), (1001, .row false 5 1 n (row8 F))]

theorem bytesE {f : Nat} (hcall : ∀ args w, (callFunc f args).run Try.prog w = .ok (.enter f args) w)
    (h : ∀ x, x < TOP → ∀ ρ w, Calls Try.prog f ([N x].map (denL ρ)).toArray w fun e' w' => (x = 0 ∧ e' = .returned ((Sv.one [.nil]).den ρ) ∧ Below w.heap.size w w') ∨
      (0 < x ∧ ∃ nt ρc ρ' σ' a' s g, e' = .returned ((Sv.one [.sl s 1 0 (nb x)]).den ρ') ∧ Rep nt (base w ρc) ρ' σ' a' w' ∧ σ'.heap s = some (.row true 5 1 (nb x) g) ∧ rowC g (nb x) = rowC (row8 (bys x)) (nb x))) : EOK ⟨f, 0, bytesC⟩ := by
  constructor
  · intro args outs ho hargs i oc hi hc d
    have ho' : bytesC args = some outs := ho
    unfold bytesC at ho'
    split at ho'
    · rename_i x
      cases ho'
      have hi' := List.mem_of_getElem? hi
      simp only [List.mem_cons, List.not_mem_nil, or_false] at hi'
      rcases hi' with rfl | rfl
      · exact ⟨(fun d' h => by cases h; rfl), (fun id' h => by cases h), (fun id' k' h => by cases h; exact ⟨rfl, trivial, row8_OK _ _⟩), one1 (.inr (.inl ⟨rfl, rfl, rfl⟩))⟩
      · exact ⟨(fun _ h => by cases h), (fun _ h => by cases h), (fun _ _ h => by cases h), one1 (.inl trivial)⟩
    · cases ho'
  · intro args outs ho i oc hi hc ρ w B' d hB hargs hd hinj
    have ho' : bytesC args = some outs := ho
    unfold bytesC at ho'
    split at ho'
    · rename_i x
      cases ho'
      have hi' := List.mem_of_getElem? hi
      have hx : x < TOP := by rw [← pow64_4]; exact (hargs _ List.mem_cons_self _ List.mem_cons_self).1 rfl
      refine ⟨hcall _ _, ?_⟩
      simp only [List.mem_cons, List.not_mem_nil, or_false] at hi'
      rcases hi' with rfl | rfl
      · have hc' : 0 < x := hc
        refine (h x hx ρ w).mono ?_
        rintro e w' (⟨h0, _⟩ | ⟨_, nt, ρc, ρ', σ', a', s, g, rfl, hr, hs, hrow⟩)
        · omega
        · exact ⟨_, fresh_post (d := d) (ρe := ρ) hB hr hs (row8_OK _ _) hrow, congrArg _ (fresh_val (ρe := ρ) hr hs)⟩
      · have hc' : x = 0 := hc
        refine (h x hx ρ w).mono ?_
        rintro e w' (⟨_, rfl, hb⟩ | ⟨h0, _⟩)
        · exact ⟨ρ, postBelow hb, rfl⟩
        · omega
    · cases ho'

theorem bytes_e : EOK ⟨81, 0, bytesC⟩ := bytesE (fun a w => Try.call81 a w) fun x hx ρ w => by
  refine (calls_of (w0 := base w ρ) (ctx_ok tabU_ok 31) Try.func81 (c := bodyOf Try.f81) rfl rfl (args := [.one (N x)]) (Nat.le_of_ble_eq_true (by kernel_rfl)) (plain_in (base w ρ) [N x] (by ((repeat' (first | exact argsP_nil | refine argsP_cons ?_ ?_)) <;> (first | exact E_plain _ | exact B_plain _ | exact lit_plain _ _ | exact int_plain _ _ | exact N_plain (by omega) | exact N_plain2 (by omega) (by omega) | assumption)))) (bytes_goes hx)).mono ?_
  rintro e w' ⟨v, σ', ρ', a', ⟨h0, rfl⟩ | ⟨h0, rfl, hs⟩, rfl, hr, _⟩
  · exact .inl ⟨h0, rfl, kept_below hr.below⟩
  · exact .inr ⟨h0, 31, ρ, ρ', σ', a', 500, _, rfl, hr, hs, rfl⟩

theorem same_goes {w0 : Base} {F : Nat → Nat} {n : Nat} (hn : n < 64) : Goes Try.prog Try.f83.ntmps w0 [.code (bodyOf Try.f83)] .norm (kn (argS 0 [.one [.sl 1000 1 0 n], .one [.sl 1001 1 0 n]]) (smH n F))
    (Fin (ctx tabU 26) Try.f83.results.toList fun v _ => v = .one (B true)) := by
  refine (goes (ctx_ok tabU_ok 26) mixed rfl (gs := [5]) (gh := []) (orc := way [(10, 1)]) (stops := [0]) (f := 3000) (k := [.code (bodyOf Try.f83)]) (o := .norm) (σ := (kn (argS 0 [.one [.sl 1000 1 0 n], .one [.sl 1001 1 0 n]]) (smH n F))) (cs := [True, True, True, True, True, ¬(↑n : Int) ≠ (↑n : Int), True]) (k' := (kOf 0 (bodyOf Try.f83))) (o' := .norm) (S := (smS n 0)) (H := (smH n F)) (by kernel_rfl) (by kernel_rfl) (by simp [conj])).bind ?_
  rintro k o σ ⟨rfl, rfl, rfl⟩
  have hk : kOf 0 (bodyOf Try.f83) = .code (.block 0 (.loop (roundOf 0 (bodyOf Try.f83)))) :: restOf 0 (bodyOf Try.f83) := by kernel_rfl
  rw [hk]
  refine (goes_loop (fun i : Nat => kn (smS n i) (smH n F)) (fun i => i ≤ n) (fun i => n - i) (fun o σ => o = .norm ∧ σ = kn (smS n n) (smH n F)) ?_ (p := 0) (Nat.zero_le _)).bind ?_
  · intro i hle
    by_cases hi : i < n
    · refine (goes (ctx_ok tabU_ok 26) mixed rfl (gs := []) (gh := []) (orc := way [(25, 1)]) (stops := []) (f := 3000) (k := [.code (roundOf 0 (bodyOf Try.f83))]) (o := .norm) (σ := (kn (smS n i) (smH n F))) (cs := [True, True, True, (↑i : Int) < (↑n : Int), True, True, (0 : Int) ≤ (↑i : Int) ∧ (↑i : Int) < (↑n : Int), addO (0 : Nat) i < n, True, True, (0 : Int) ≤ (↑i : Int) ∧ (↑i : Int) < (↑n : Int), addO (0 : Nat) i < n, ¬(↑(F (addO (0 : Nat) (Int.toNat (Prod.snd (IntKind.i64, (↑i : Int)))))) : Int) ≠ (↑(F (addO (0 : Nat) (Int.toNat (Prod.snd (IntKind.i64, (↑i : Int)))))) : Int), True, (-9223372036854775808 : Int) ≤ (↑i : Int) + (1 : Int) ∧ (↑i : Int) + (1 : Int) < (9223372036854775808 : Int), True]) (k' := []) (o' := .norm) (S := (smS n (i + 1))) (H := (smH n F)) (by kernel_rfl) (by kernel_rfl) (by simp only [conj, and_true, true_and, addO_eq, Nat.zero_add, Int.toNat_natCast, ne_eq, not_true_eq_false, not_false_eq_true]; omega)).mono ?_
      rintro k o σ ⟨rfl, rfl, rfl⟩
      exact ⟨rfl, .inl ⟨rfl, i + 1, hi, by omega, rfl⟩⟩
    · obtain rfl : i = n := by omega
      refine (goes (ctx_ok tabU_ok 26) mixed rfl (gs := []) (gh := []) (orc := way [(14, 1)]) (stops := []) (f := 3000) (k := [.code (roundOf 0 (bodyOf Try.f83))]) (o := .norm) (σ := (kn (smS i i) (smH i F))) (cs := [True, True, True, ¬(↑i : Int) < (↑i : Int)]) (k' := []) (o' := (.exit 0)) (S := (smS i i)) (H := (smH i F)) (by kernel_rfl) (by kernel_rfl) (by simp [conj])).mono ?_
      rintro k o σ ⟨rfl, rfl, rfl⟩
      exact ⟨rfl, .inr ⟨by simp, rfl, rfl⟩⟩
  · rintro k o σ ⟨rfl, rfl, rfl⟩
    exact goes_ret (ctx_ok tabU_ok 26) mixed rfl (orc := way []) (stops := []) (f := 3000) (k := (restOf 0 (bodyOf Try.f83))) (o := .norm) (σ := (kn (smS n n) (smH n F))) (cs := [True]) (o' := .ret) (rs := Try.f83.results.toList) (v := (.one (B true))) (H := ([] : List (Nat × Bk))) (by kernel_rfl) (.inr rfl) (by simp [conj]) fun _ _ => rfl

theorem same_nil {w0 : Base} : Goes Try.prog Try.f83.ntmps w0 [.code (bodyOf Try.f83)] .norm (kn (argS 0 [.one [.nil], .one [.nil]]) [])
    (Fin (ctx tabU 26) Try.f83.results.toList fun v _ => v = .one (B true)) :=
  goes_ret (ctx_ok tabU_ok 26) mixed rfl (orc := way []) (stops := []) (f := 3000) (k := [.code (bodyOf Try.f83)]) (o := .norm) (σ := (kn (argS 0 [.one [.nil], .one [.nil]]) [])) (cs := [True, True, True, True, True, True, True, True, True, True, True, True]) (o' := .ret) (rs := Try.f83.results.toList) (v := (.one (B true))) (H := ([] : List (Nat × Bk))) (by kernel_rfl) (.inr rfl) (by simp [conj]) fun _ _ => rfl

theorem same_e : EOK ⟨83, 1, dcon sameK⟩ := by
  refine dcon_ok (fun a w => Try.call83 a w) fun args l hl p hp hc => ?_
  unfold sameK at hl
  split at hl
  · rename_i a n o n1 f b m o2 m1 g
    cases hl
    simp only [List.mem_singleton] at hp
    subst hp
    obtain ⟨rfl, rfl, rfl, h4, F, hF, hG⟩ := hc
    refine ⟨B_plain _, fun ρ w B' hargs => ?_⟩
    obtain ⟨ida, ha1, ha2, _⟩ := (hargs _ List.mem_cons_self _ List.mem_cons_self).2 _ rfl
    cases ha1
    obtain ⟨idb, hb1, hb2, _⟩ := (hargs _ (List.mem_cons_of_mem _ List.mem_cons_self) _ List.mem_cons_self).2 _ rfl
    cases hb1
    let ρ2 : Env := ⟨fun i => ρ.b (bif Nat.beq i 1000 then a else b), fun i => ρ.o (bif Nat.beq i 1000 then a else b), fun i => ρ.c (bif Nat.beq i 1000 then a else b)⟩
    have hin : InOK (base w ρ2) [.one [.sl 1000 1 0 m], .one [.sl 1001 1 0 m]] (smH m F) := by
      refine in_reads ?_ ?_
      · intro p hp
        simp only [smH, List.mem_cons, List.not_mem_nil, or_false] at hp
        rcases hp with rfl | rfl
        · exact ⟨rfl, trivial, BSim.ok (.inr ⟨_, _, _, _, _, _, rfl, rfl, row8_OK _ _, hF⟩) (read_bk ha2 rfl rfl rfl)⟩
        · exact ⟨rfl, trivial, BSim.ok (.inr ⟨_, _, _, _, _, _, rfl, rfl, row8_OK _ _, hG⟩) (read_bk hb2 rfl rfl rfl)⟩
      · intro s hs
        simp only [List.mem_cons, List.not_mem_nil, or_false] at hs
        rcases hs with rfl | rfl
        · exact one1 (.inr ⟨1000, _, rfl, rfl⟩)
        · exact one1 (.inr ⟨1001, _, rfl, rfl⟩)
    refine (calls_of (ctx_ok tabU_ok 26) Try.func83 (c := bodyOf Try.f83) rfl rfl (Nat.le_of_ble_eq_true (by kernel_rfl)) hin (same_goes h4)).mono ?_
    rintro e w' ⟨v, σ', ρ', a', rfl, rfl, hr, _⟩
    exact ⟨kept_below hr.below, rfl⟩
  · cases hl
    simp only [List.mem_singleton] at hp
    subst hp
    refine ⟨B_plain _, fun ρ w B' hargs => ?_⟩
    refine (calls_of (w0 := base w ρ) (ctx_ok tabU_ok 26) Try.func83 (c := bodyOf Try.f83) rfl rfl (args := [.one [.nil], .one [.nil]]) (Nat.le_of_ble_eq_true (by kernel_rfl)) (plain_in (base w ρ) [[.nil], [.nil]] (fun l hl a ha => by
      simp only [List.mem_cons, List.not_mem_nil, or_false, or_self] at hl
      subst hl
      simp only [List.mem_singleton] at ha
      subst ha
      trivial)) same_nil).mono ?_
    rintro e w' ⟨v, σ', ρ', a', rfl, rfl, hr, _⟩
    exact ⟨kept_below hr.below, rfl⟩
  · cases hl

theorem par_e : EOK ⟨100, 0, pcon parK⟩ := by
  refine pcon_ok (fun a w => Try.call100 a w) fun args l hl ha p hp hc => ?_
  unfold parK at hl
  split at hl
  · cases hl
    simp only [List.mem_singleton] at hp
    subst hp
    have hc' := hc
    simp only at hc'
    subst hc'
    refine ⟨plain2 top_pos (E_plain _), fun ρ w => ?_⟩
    refine (parse_calls w).mono ?_
    rintro e w' ⟨rfl, hb⟩
    refine ⟨hb, ?_⟩
    have h0 : V 0 = V4 0 0 0 0 := V_small (by omega)
    simp only [Sv.den, List.map_cons, List.map_nil, denL_num]
    rw [h0]; rfl
  · cases hl

theorem tH_ok : TabOK tH := .cons bytes_e (.cons same_e (.cons par_e tabU_ok))

theorem nb256 : nb 256 = 2 := by rw [nb_pos (by omega), nb_pos (by omega), nb_zero]

theorem half_row : rowC (getL [[Av.lit IntKind.u8 1], [Av.lit IntKind.u8 0]]) 2 = rowC (row8 (bys 256)) 2 := by
  have b0 : bys 256 0 = 1 := by unfold bys; rw [nb256]
  have b1 : bys 256 1 = 0 := by unfold bys; rw [nb256]
  simp [rowC, row8, b0, b1, getL, cellsL, Av.cells, Av.val]


theorem halves_owes  :
    Owes 72 [] [(True, .one (B true))] := by
  have ht := top_eq
  intro p0 hp0 hc
  simp only [List.mem_cons, List.not_mem_nil, or_false] at hp0
  subst hp0
  · have hc' : True := hc
    have hpl : (.one (B true) : Sv).all Av.plain := by ((first | refine tupP ?_ | refine oneP ?_) <;> first | (first | exact E_plain _ | exact B_plain _ | exact lit_plain _ _ | exact int_plain _ _ | exact N_plain (by omega) | exact N_plain2 (by omega) (by omega) | assumption) | ((repeat' (first | exact argsP_nil | refine argsP_cons ?_ ?_)) <;> (first | exact E_plain _ | exact B_plain _ | exact lit_plain _ _ | exact int_plain _ _ | exact N_plain (by omega) | exact N_plain2 (by omega) (by omega) | assumption)))
    refine ⟨hpl, pure_calls' (ctx_ok tH_ok 51) Try.func72 (c := bodyOf Try.f72) rfl rfl (args := []) (Nat.le_of_ble_eq_true (by kernel_rfl)) (by ((repeat' (first | exact argsP_nil | refine argsP_cons ?_ ?_)) <;> (first | exact E_plain _ | exact B_plain _ | exact lit_plain _ _ | exact int_plain _ _ | exact N_plain (by omega) | exact N_plain2 (by omega) (by omega) | assumption))) hpl (fun w0 => ?_)⟩
    exact goes_ret (ctx_ok tH_ok 51) mixed rfl (orc := way []) (stops := []) (f := 3000) (k := [.code (bodyOf Try.f72)]) (o := .norm) (σ := (kn (argS 0 ([].map .one)) [])) (cs := [True, (0 : Int) ≤ (7 : Int) ∧ (7 : Int) < (18446744073709551616 : Int), (0 : Int) ≤ (3 : Int) ∧ (3 : Int) < (18446744073709551616 : Int), (0 : Int) ≤ (2 : Int) ∧ (2 : Int) < (18446744073709551616 : Int), (0 : Nat) < 2 ∧ 7 * 3 / 2 < TOP, True, True, True, True, True, True, (0 : Int) ≤ (7 : Int) ∧ (7 : Int) < (18446744073709551616 : Int), (0 : Int) ≤ (3 : Int) ∧ (3 : Int) < (18446744073709551616 : Int), (0 : Int) ≤ (2 : Int) ∧ (2 : Int) < (18446744073709551616 : Int), (0 : Nat) < 2 ∧ up (7 * 3) (2) < TOP, True, True, True, True, True, True, (ByteArray.mk #[(48 : UInt8), (48 : UInt8), (55 : UInt8)]) = (ByteArray.mk #[(48 : UInt8), (48 : UInt8), (55 : UInt8)]), True, True, True, True, True, True, True, True, 7 * 3 / 2 = 10, True, True, True, True, True, True, True, up (7 * 3) (2) = 11, True, True, True, True, True, True, (0 : Int) ≤ (256 : Int) ∧ (256 : Int) < (18446744073709551616 : Int), (0 : Nat) < 256, True, nb (256) = nb (256) ∧ (2 : Nat) = nb (256) ∧ (2 : Nat) = nb (256) ∧ nb (256) < (64 : Nat) ∧ ∃ F, rowC (row8 (bys (Int.toNat (256 : Int)))) (nb (Int.toNat (256 : Int))) = rowC (row8 F) (nb (Int.toNat (256 : Int))) ∧ rowC (getL ((fun ls => [Av.lit IntKind.u8 (1 : Int)] :: ls) ((fun ls => [Av.lit IntKind.u8 (0 : Int)] :: ls) []))) (nb (Int.toNat (256 : Int))) = rowC (row8 F) (nb (Int.toNat (256 : Int))), True, True, True, True, True, True]) (o' := .ret) (rs := Try.f72.results.toList) (v := (.one (B true))) (H := ([] : List (Nat × Bk))) (by kernel_rfl) (.inr rfl) (by simp [conj, nb256, up]; refine ⟨by omega, by omega, bys 256, rfl, half_row⟩) fun _ _ => rfl

end M
end Go.Proofs.Ytmjdmhelmgcanaa

/- The laws of num that have no bytes, as calls. -/
namespace Go.Proofs.Ytmjdmhelmgcanaa
namespace M
open Go.RowKit
set_option linter.unusedSimpArgs false

def tN1 : List Entry := ⟨72, 1, pcon (k0 [(True, .one (B true))])⟩ :: tH
def tN2 : List Entry := ⟨80, 0, pcon (k2 fun x y => [(y ≤ x, .tup [N (x - y), E 0]), (x < y, .tup [N 0, E 3])])⟩ :: tN1
def tN : List Entry := ⟨86, 0, pcon (k2 fun x y => [(True, .one (N (x - y)))])⟩ :: ⟨87, 0, pcon (k2 fun x y => [(True, .one (N (min x y)))])⟩ :: ⟨56, 0, pcon (k2 fun x y => [(True, .one (N (min x y)))])⟩ :: tN2

theorem tN1_ok : TabOK tN1 := .cons (k0_ok (fun a w => Try.call72 a w) halves_owes) tH_ok

theorem nsub_owes {x y : Nat} (hx : x < TOP) (hy : y < TOP) :
    Owes 80 [N x, N y] [(y ≤ x, .tup [N (x - y), E 0]), (x < y, .tup [N 0, E 3])] := by
  have ht := top_eq
  intro p0 hp0 hc
  simp only [List.mem_cons, List.not_mem_nil, or_false] at hp0
  rcases hp0 with rfl | rfl
  · have hc' : y ≤ x := hc
    have hpl : (.tup [N (x - y), E 0] : Sv).all Av.plain := by ((first | refine tupP ?_ | refine oneP ?_) <;> first | (first | exact E_plain _ | exact B_plain _ | exact lit_plain _ _ | exact int_plain _ _ | exact N_plain (by omega) | exact N_plain2 (by omega) (by omega) | assumption) | ((repeat' (first | exact argsP_nil | refine argsP_cons ?_ ?_)) <;> (first | exact E_plain _ | exact B_plain _ | exact lit_plain _ _ | exact int_plain _ _ | exact N_plain (by omega) | exact N_plain2 (by omega) (by omega) | assumption)))
    refine ⟨hpl, pure_calls' (ctx_ok tN1_ok 17) Try.func80 (c := bodyOf Try.f80) rfl rfl (args := [N x, N y]) (Nat.le_of_ble_eq_true (by kernel_rfl)) (by ((repeat' (first | exact argsP_nil | refine argsP_cons ?_ ?_)) <;> (first | exact E_plain _ | exact B_plain _ | exact lit_plain _ _ | exact int_plain _ _ | exact N_plain (by omega) | exact N_plain2 (by omega) (by omega) | assumption))) hpl (fun w0 => ?_)⟩
    exact goes_ret (ctx_ok tN1_ok 17) mixed rfl (orc := way []) (stops := []) (f := 3000) (k := [.code (bodyOf Try.f80)]) (o := .norm) (σ := (kn (argS 0 ([N x, N y].map .one)) [])) (cs := [True, True, True, True, True, True, y ≤ x, True, True, True, True, True, True, True, True, True, True]) (o' := .ret) (rs := Try.f80.results.toList) (v := (.tup [N (x - y), E 0])) (H := ([] : List (Nat × Bk))) (by kernel_rfl) (.inr rfl) (by ((simp only [conj, and_true, true_and, and_self, cmp_lt0, cmp_le0, cmp_ge0, cmp_gt0, reduceCtorEq, not_false_eq_true]) <;> first | omega | (simp_all; done) | (simp_all; omega))) fun _ _ => rfl
  · have hc' : x < y := hc
    have hpl : (.tup [N 0, E 3] : Sv).all Av.plain := by ((first | refine tupP ?_ | refine oneP ?_) <;> first | (first | exact E_plain _ | exact B_plain _ | exact lit_plain _ _ | exact int_plain _ _ | exact N_plain (by omega) | exact N_plain2 (by omega) (by omega) | assumption) | ((repeat' (first | exact argsP_nil | refine argsP_cons ?_ ?_)) <;> (first | exact E_plain _ | exact B_plain _ | exact lit_plain _ _ | exact int_plain _ _ | exact N_plain (by omega) | exact N_plain2 (by omega) (by omega) | assumption)))
    refine ⟨hpl, pure_calls' (ctx_ok tN1_ok 17) Try.func80 (c := bodyOf Try.f80) rfl rfl (args := [N x, N y]) (Nat.le_of_ble_eq_true (by kernel_rfl)) (by ((repeat' (first | exact argsP_nil | refine argsP_cons ?_ ?_)) <;> (first | exact E_plain _ | exact B_plain _ | exact lit_plain _ _ | exact int_plain _ _ | exact N_plain (by omega) | exact N_plain2 (by omega) (by omega) | assumption))) hpl (fun w0 => ?_)⟩
    exact goes_ret (ctx_ok tN1_ok 17) mixed rfl (orc := way [(11, 1)]) (stops := []) (f := 3000) (k := [.code (bodyOf Try.f80)]) (o := .norm) (σ := (kn (argS 0 ([N x, N y].map .one)) [])) (cs := [True, True, True, True, True, True, x < y, True, True, True, True, True, True, True, True, True, True]) (o' := .ret) (rs := Try.f80.results.toList) (v := (.tup [N 0, E 3])) (H := ([] : List (Nat × Bk))) (by kernel_rfl) (.inr rfl) (by ((simp only [conj, and_true, true_and, and_self, cmp_lt0, cmp_le0, cmp_ge0, cmp_gt0, reduceCtorEq, not_false_eq_true]) <;> first | omega | (simp_all; done) | (simp_all; omega))) fun _ _ => rfl

theorem tN2_ok : TabOK tN2 := .cons (k2_ok (fun a w => Try.call80 a w) fun _ _ h1 h2 => nsub_owes h1 h2) tN1_ok


theorem nrest_owes {x y : Nat} (hx : x < TOP) (hy : y < TOP) :
    Owes 86 [N x, N y] [(True, .one (N (x - y)))] := by
  have ht := top_eq
  intro p0 hp0 hc
  simp only [List.mem_cons, List.not_mem_nil, or_false] at hp0
  subst hp0
  · have hc' : True := hc
    have hpl : (.one (N (x - y)) : Sv).all Av.plain := by ((first | refine tupP ?_ | refine oneP ?_) <;> first | (first | exact E_plain _ | exact B_plain _ | exact lit_plain _ _ | exact int_plain _ _ | exact N_plain (by omega) | exact N_plain2 (by omega) (by omega) | assumption) | ((repeat' (first | exact argsP_nil | refine argsP_cons ?_ ?_)) <;> (first | exact E_plain _ | exact B_plain _ | exact lit_plain _ _ | exact int_plain _ _ | exact N_plain (by omega) | exact N_plain2 (by omega) (by omega) | assumption)))
    refine ⟨hpl, pure_calls' (ctx_ok tN2_ok 14) Try.func86 (c := bodyOf Try.f86) rfl rfl (args := [N x, N y]) (Nat.le_of_ble_eq_true (by kernel_rfl)) (by ((repeat' (first | exact argsP_nil | refine argsP_cons ?_ ?_)) <;> (first | exact E_plain _ | exact B_plain _ | exact lit_plain _ _ | exact int_plain _ _ | exact N_plain (by omega) | exact N_plain2 (by omega) (by omega) | assumption))) hpl (fun w0 => ?_)⟩
    rcases Nat.lt_or_ge x y with h | h
    · skip
      rw [show x - y = 0 by omega]
      exact goes_ret (ctx_ok tN2_ok 14) mixed rfl (orc := way [(10, 1)]) (stops := []) (f := 3000) (k := [.code (bodyOf Try.f86)]) (o := .norm) (σ := (kn (argS 0 ([N x, N y].map .one)) [])) (cs := [True, True, True, True, True, x < y, True, True, True, True, True, True, True, True]) (o' := .ret) (rs := Try.f86.results.toList) (v := (.one (N 0))) (H := ([] : List (Nat × Bk))) (by kernel_rfl) (.inr rfl) (by ((simp only [conj, and_true, true_and, and_self, cmp_lt0, cmp_le0, cmp_ge0, cmp_gt0, reduceCtorEq, not_false_eq_true]) <;> first | omega | (simp_all; done) | (simp_all; omega))) fun _ _ => rfl
    · skip
      exact goes_ret (ctx_ok tN2_ok 14) mixed rfl (orc := way []) (stops := []) (f := 3000) (k := [.code (bodyOf Try.f86)]) (o := .norm) (σ := (kn (argS 0 ([N x, N y].map .one)) [])) (cs := [True, True, True, True, True, y ≤ x, True, True, True, True, True, True, True, True]) (o' := .ret) (rs := Try.f86.results.toList) (v := (.one (N (x - y)))) (H := ([] : List (Nat × Bk))) (by kernel_rfl) (.inr rfl) (by ((simp only [conj, and_true, true_and, and_self, cmp_lt0, cmp_le0, cmp_ge0, cmp_gt0, reduceCtorEq, not_false_eq_true]) <;> first | omega | (simp_all; done) | (simp_all; omega))) fun _ _ => rfl

theorem nleast_owes {x y : Nat} (hx : x < TOP) (hy : y < TOP) :
    Owes 87 [N x, N y] [(True, .one (N (min x y)))] := by
  have ht := top_eq
  intro p0 hp0 hc
  simp only [List.mem_cons, List.not_mem_nil, or_false] at hp0
  subst hp0
  · have hc' : True := hc
    have hpl : (.one (N (min x y)) : Sv).all Av.plain := by ((first | refine tupP ?_ | refine oneP ?_) <;> first | (first | exact E_plain _ | exact B_plain _ | exact lit_plain _ _ | exact int_plain _ _ | exact N_plain (by omega) | exact N_plain2 (by omega) (by omega) | assumption) | ((repeat' (first | exact argsP_nil | refine argsP_cons ?_ ?_)) <;> (first | exact E_plain _ | exact B_plain _ | exact lit_plain _ _ | exact int_plain _ _ | exact N_plain (by omega) | exact N_plain2 (by omega) (by omega) | assumption)))
    refine ⟨hpl, pure_calls' (ctx_ok tN2_ok 11) Try.func87 (c := bodyOf Try.f87) rfl rfl (args := [N x, N y]) (Nat.le_of_ble_eq_true (by kernel_rfl)) (by ((repeat' (first | exact argsP_nil | refine argsP_cons ?_ ?_)) <;> (first | exact E_plain _ | exact B_plain _ | exact lit_plain _ _ | exact int_plain _ _ | exact N_plain (by omega) | exact N_plain2 (by omega) (by omega) | assumption))) hpl (fun w0 => ?_)⟩
    rcases Nat.lt_or_ge x y with h | h
    · skip
      rw [show min x y = x by omega]
      exact goes_ret (ctx_ok tN2_ok 11) mixed rfl (orc := way []) (stops := []) (f := 3000) (k := [.code (bodyOf Try.f87)]) (o := .norm) (σ := (kn (argS 0 ([N x, N y].map .one)) [])) (cs := [True, True, True, True, True, True, cmpN x y < (0 : Int), True, True]) (o' := .ret) (rs := Try.f87.results.toList) (v := (.one (N x))) (H := ([] : List (Nat × Bk))) (by kernel_rfl) (.inr rfl) (by ((simp only [conj, and_true, true_and, and_self, cmp_lt0, cmp_le0, cmp_ge0, cmp_gt0, reduceCtorEq, not_false_eq_true]) <;> first | omega | (simp_all; done) | (simp_all; omega))) fun _ _ => rfl
    · skip
      rw [show min x y = y by omega]
      exact goes_ret (ctx_ok tN2_ok 11) mixed rfl (orc := way [(8, 1)]) (stops := []) (f := 3000) (k := [.code (bodyOf Try.f87)]) (o := .norm) (σ := (kn (argS 0 ([N x, N y].map .one)) [])) (cs := [True, True, True, True, True, True, ¬cmpN x y < (0 : Int), True, True]) (o' := .ret) (rs := Try.f87.results.toList) (v := (.one (N y))) (H := ([] : List (Nat × Bk))) (by kernel_rfl) (.inr rfl) (by ((simp only [conj, and_true, true_and, and_self, cmp_lt0, cmp_le0, cmp_ge0, cmp_gt0, reduceCtorEq, not_false_eq_true]) <;> first | omega | (simp_all; done) | (simp_all; omega))) fun _ _ => rfl

theorem rleast_owes {x y : Nat} (hx : x < TOP) (hy : y < TOP) :
    Owes 56 [N x, N y] [(True, .one (N (min x y)))] := by
  have ht := top_eq
  intro p0 hp0 hc
  simp only [List.mem_cons, List.not_mem_nil, or_false] at hp0
  subst hp0
  · have hc' : True := hc
    have hpl : (.one (N (min x y)) : Sv).all Av.plain := by ((first | refine tupP ?_ | refine oneP ?_) <;> first | (first | exact E_plain _ | exact B_plain _ | exact lit_plain _ _ | exact int_plain _ _ | exact N_plain (by omega) | exact N_plain2 (by omega) (by omega) | assumption) | ((repeat' (first | exact argsP_nil | refine argsP_cons ?_ ?_)) <;> (first | exact E_plain _ | exact B_plain _ | exact lit_plain _ _ | exact int_plain _ _ | exact N_plain (by omega) | exact N_plain2 (by omega) (by omega) | assumption)))
    refine ⟨hpl, pure_calls' (ctx_ok tN2_ok 11) Try.func56 (c := bodyOf Try.f56) rfl rfl (args := [N x, N y]) (Nat.le_of_ble_eq_true (by kernel_rfl)) (by ((repeat' (first | exact argsP_nil | refine argsP_cons ?_ ?_)) <;> (first | exact E_plain _ | exact B_plain _ | exact lit_plain _ _ | exact int_plain _ _ | exact N_plain (by omega) | exact N_plain2 (by omega) (by omega) | assumption))) hpl (fun w0 => ?_)⟩
    rcases Nat.lt_or_ge y x with h | h
    · skip
      rw [show min x y = y by omega]
      exact goes_ret (ctx_ok tN2_ok 11) mixed rfl (orc := way [(8, 1)]) (stops := []) (f := 3000) (k := [.code (bodyOf Try.f56)]) (o := .norm) (σ := (kn (argS 0 ([N x, N y].map .one)) [])) (cs := [True, True, True, True, True, True, ¬cmpN x y ≤ (0 : Int), True, True]) (o' := .ret) (rs := Try.f56.results.toList) (v := (.one (N y))) (H := ([] : List (Nat × Bk))) (by kernel_rfl) (.inr rfl) (by ((simp only [conj, and_true, true_and, and_self, cmp_lt0, cmp_le0, cmp_ge0, cmp_gt0, reduceCtorEq, not_false_eq_true]) <;> first | omega | (simp_all; done) | (simp_all; omega))) fun _ _ => rfl
    · skip
      rw [show min x y = x by omega]
      exact goes_ret (ctx_ok tN2_ok 11) mixed rfl (orc := way []) (stops := []) (f := 3000) (k := [.code (bodyOf Try.f56)]) (o := .norm) (σ := (kn (argS 0 ([N x, N y].map .one)) [])) (cs := [True, True, True, True, True, True, cmpN x y ≤ (0 : Int), True, True]) (o' := .ret) (rs := Try.f56.results.toList) (v := (.one (N x))) (H := ([] : List (Nat × Bk))) (by kernel_rfl) (.inr rfl) (by ((simp only [conj, and_true, true_and, and_self, cmp_lt0, cmp_le0, cmp_ge0, cmp_gt0, reduceCtorEq, not_false_eq_true]) <;> first | omega | (simp_all; done) | (simp_all; omega))) fun _ _ => rfl

theorem tN_ok : TabOK tN := .cons (k2_ok (fun a w => Try.call86 a w) fun _ _ h1 h2 => nrest_owes h1 h2) (.cons (k2_ok (fun a w => Try.call87 a w) fun _ _ h1 h2 => nleast_owes h1 h2) (.cons (k2_ok (fun a w => Try.call56 a w) fun _ _ h1 h2 => rleast_owes h1 h2) tN2_ok))


theorem num_products_owes {x y : Nat} (hx : x < TOP) (hy : y < TOP) :
    Owes 23 [N x, N y] [(True, .one (B true))] := by
  have ht := top_eq
  have hmc : y * x = x * y := Nat.mul_comm y x
  intro p0 hp0 hc
  simp only [List.mem_cons, List.not_mem_nil, or_false] at hp0
  subst hp0
  · have hc' : True := hc
    have hpl : (.one (B true) : Sv).all Av.plain := by ((first | refine tupP ?_ | refine oneP ?_) <;> first | (first | exact E_plain _ | exact B_plain _ | exact lit_plain _ _ | exact int_plain _ _ | exact N_plain (by omega) | exact N_plain2 (by omega) (by omega) | assumption) | ((repeat' (first | exact argsP_nil | refine argsP_cons ?_ ?_)) <;> (first | exact E_plain _ | exact B_plain _ | exact lit_plain _ _ | exact int_plain _ _ | exact N_plain (by omega) | exact N_plain2 (by omega) (by omega) | assumption)))
    refine ⟨hpl, pure_calls' (ctx_ok tN_ok 71) Try.func23 (c := bodyOf Try.f23) rfl rfl (args := [N x, N y]) (Nat.le_of_ble_eq_true (by kernel_rfl)) (by ((repeat' (first | exact argsP_nil | refine argsP_cons ?_ ?_)) <;> (first | exact E_plain _ | exact B_plain _ | exact lit_plain _ _ | exact int_plain _ _ | exact N_plain (by omega) | exact N_plain2 (by omega) (by omega) | assumption))) hpl (fun w0 => ?_)⟩
    rcases Nat.lt_or_ge (x * y) TOP with h | h
    · skip
      exact goes_ret (ctx_ok tN_ok 71) mixed rfl (orc := way []) (stops := []) (f := 3000) (k := [.code (bodyOf Try.f23)]) (o := .norm) (σ := (kn (argS 0 ([N x, N y].map .one)) [])) (cs := [True, True, True, True, True, x * y < TOP, True, True, True, True, True, True, True, True, y * x < TOP, True, True, True, True, True, True, True, True, x * y < TOP, True, True, True, True, True, True, True, True, True, True, True, True, True, True, True, True, True, True, True, True, True, x * y = x * y, True, True, True, True, y * x = x * y, True, True]) (o' := .ret) (rs := Try.f23.results.toList) (v := (.one (B true))) (H := ([] : List (Nat × Bk))) (by kernel_rfl) (.inr rfl) (by ((simp only [conj, and_true, true_and, and_self, cmp_lt0, cmp_le0, cmp_ge0, cmp_gt0, reduceCtorEq, not_false_eq_true]) <;> first | omega | (simp_all; done) | (simp_all; omega))) fun _ _ => rfl
    · skip
      exact goes_ret (ctx_ok tN_ok 71) mixed rfl (orc := way [(14, 1), (20, 1), (26, 1)]) (stops := []) (f := 3000) (k := [.code (bodyOf Try.f23)]) (o := .norm) (σ := (kn (argS 0 ([N x, N y].map .one)) [])) (cs := [True, True, True, True, True, TOP ≤ x * y, True, True, True, True, True, True, True, True, TOP ≤ y * x, True, True, True, True, True, True, True, True, TOP ≤ x * y, True, True, True, True, True, True, True, True, True, True, True, True, True, True, True, True, True, True, True, True, True, (0 : Nat) = (0 : Nat), True, True, True, True, (0 : Nat) = (0 : Nat), True, True]) (o' := .ret) (rs := Try.f23.results.toList) (v := (.one (B true))) (H := ([] : List (Nat × Bk))) (by kernel_rfl) (.inr rfl) (by ((simp only [conj, and_true, true_and, and_self, cmp_lt0, cmp_le0, cmp_ge0, cmp_gt0, reduceCtorEq, not_false_eq_true]) <;> first | omega | (simp_all; done) | (simp_all; omega))) fun _ _ => rfl

theorem num_partsF_owes {x y z : Nat} (hx : x < TOP) (hy : y < TOP) (hz : z < TOP) :
    Owes 24 [N x, N y, N z, B false] [(True, .one (B true))] := by
  have ht := top_eq
  intro p0 hp0 hc
  simp only [List.mem_cons, List.not_mem_nil, or_false] at hp0
  subst hp0
  · have hc' : True := hc
    have hpl : (.one (B true) : Sv).all Av.plain := by ((first | refine tupP ?_ | refine oneP ?_) <;> first | (first | exact E_plain _ | exact B_plain _ | exact lit_plain _ _ | exact int_plain _ _ | exact N_plain (by omega) | exact N_plain2 (by omega) (by omega) | assumption) | ((repeat' (first | exact argsP_nil | refine argsP_cons ?_ ?_)) <;> (first | exact E_plain _ | exact B_plain _ | exact lit_plain _ _ | exact int_plain _ _ | exact N_plain (by omega) | exact N_plain2 (by omega) (by omega) | assumption)))
    refine ⟨hpl, pure_calls' (ctx_ok tN_ok 40) Try.func24 (c := bodyOf Try.f24) rfl rfl (args := [N x, N y, N z, B false]) (Nat.le_of_ble_eq_true (by kernel_rfl)) (by ((repeat' (first | exact argsP_nil | refine argsP_cons ?_ ?_)) <;> (first | exact E_plain _ | exact B_plain _ | exact lit_plain _ _ | exact int_plain _ _ | exact N_plain (by omega) | exact N_plain2 (by omega) (by omega) | assumption))) hpl (fun w0 => ?_)⟩
    have hs : (0 < z ∧ x * y / z < TOP) ∨ (0 < z ∧ TOP ≤ x * y / z) ∨ z = 0 := by omega
    rcases hs with h | h | h
    · skip
      exact goes_ret (ctx_ok tN_ok 40) mixed rfl (orc := way []) (stops := []) (f := 3000) (k := [.code (bodyOf Try.f24)]) (o := .norm) (σ := (kn (argS 0 ([N x, N y, N z, B false].map .one)) [])) (cs := [True, True, True, True, True, True, True, True, (0 : Nat) < z ∧ x * y / z < TOP, True, True, True, True, True, True, True, True, True, True, (0 : Nat) < z ∧ x * y / z < TOP, True, True, True, True, True, True, True, True, True, True, x * y / z = x * y / z, True, True, True, True, True, True, True]) (o' := .ret) (rs := Try.f24.results.toList) (v := (.one (B true))) (H := ([] : List (Nat × Bk))) (by kernel_rfl) (.inr rfl) (by ((simp only [conj, and_true, true_and, and_self, cmp_lt0, cmp_le0, cmp_ge0, cmp_gt0, reduceCtorEq, not_false_eq_true]) <;> first | omega | (simp_all; done) | (simp_all; omega))) fun _ _ => rfl
    · skip
      exact goes_ret (ctx_ok tN_ok 40) mixed rfl (orc := way [(18, 1), (26, 1)]) (stops := []) (f := 3000) (k := [.code (bodyOf Try.f24)]) (o := .norm) (σ := (kn (argS 0 ([N x, N y, N z, B false].map .one)) [])) (cs := [True, True, True, True, True, True, True, True, (0 : Nat) < z ∧ TOP ≤ x * y / z, True, True, True, True, True, True, True, True, True, True, (0 : Nat) < z ∧ TOP ≤ x * y / z, True, True, True, True, True, True, True, True, True, True, (0 : Nat) = (0 : Nat), True, True, True, True, True, True, True]) (o' := .ret) (rs := Try.f24.results.toList) (v := (.one (B true))) (H := ([] : List (Nat × Bk))) (by kernel_rfl) (.inr rfl) (by ((simp only [conj, and_true, true_and, and_self, cmp_lt0, cmp_le0, cmp_ge0, cmp_gt0, reduceCtorEq, not_false_eq_true]) <;> first | omega | (simp_all; done) | (simp_all; omega))) fun _ _ => rfl
    · skip
      exact goes_ret (ctx_ok tN_ok 40) mixed rfl (orc := way [(18, 2), (26, 2)]) (stops := []) (f := 3000) (k := [.code (bodyOf Try.f24)]) (o := .norm) (σ := (kn (argS 0 ([N x, N y, N z, B false].map .one)) [])) (cs := [True, True, True, True, True, True, True, True, z = (0 : Nat), True, True, True, True, True, True, True, True, True, True, z = (0 : Nat), True, True, True, True, True, True, True, True, True, True, (0 : Nat) = (0 : Nat), True, True, True, True, True, True, True]) (o' := .ret) (rs := Try.f24.results.toList) (v := (.one (B true))) (H := ([] : List (Nat × Bk))) (by kernel_rfl) (.inr rfl) (by ((simp only [conj, and_true, true_and, and_self, cmp_lt0, cmp_le0, cmp_ge0, cmp_gt0, reduceCtorEq, not_false_eq_true]) <;> first | omega | (simp_all; done) | (simp_all; omega))) fun _ _ => rfl

theorem num_partsT_owes {x y z : Nat} (hx : x < TOP) (hy : y < TOP) (hz : z < TOP) :
    Owes 24 [N x, N y, N z, B true] [(True, .one (B true))] := by
  have ht := top_eq
  intro p0 hp0 hc
  simp only [List.mem_cons, List.not_mem_nil, or_false] at hp0
  subst hp0
  · have hc' : True := hc
    have hpl : (.one (B true) : Sv).all Av.plain := by ((first | refine tupP ?_ | refine oneP ?_) <;> first | (first | exact E_plain _ | exact B_plain _ | exact lit_plain _ _ | exact int_plain _ _ | exact N_plain (by omega) | exact N_plain2 (by omega) (by omega) | assumption) | ((repeat' (first | exact argsP_nil | refine argsP_cons ?_ ?_)) <;> (first | exact E_plain _ | exact B_plain _ | exact lit_plain _ _ | exact int_plain _ _ | exact N_plain (by omega) | exact N_plain2 (by omega) (by omega) | assumption)))
    refine ⟨hpl, pure_calls' (ctx_ok tN_ok 40) Try.func24 (c := bodyOf Try.f24) rfl rfl (args := [N x, N y, N z, B true]) (Nat.le_of_ble_eq_true (by kernel_rfl)) (by ((repeat' (first | exact argsP_nil | refine argsP_cons ?_ ?_)) <;> (first | exact E_plain _ | exact B_plain _ | exact lit_plain _ _ | exact int_plain _ _ | exact N_plain (by omega) | exact N_plain2 (by omega) (by omega) | assumption))) hpl (fun w0 => ?_)⟩
    have hs : (0 < z ∧ up (x * y) z < TOP) ∨ (0 < z ∧ TOP ≤ up (x * y) z) ∨ z = 0 := by omega
    rcases hs with h | h | h
    · skip
      exact goes_ret (ctx_ok tN_ok 40) mixed rfl (orc := way []) (stops := []) (f := 3000) (k := [.code (bodyOf Try.f24)]) (o := .norm) (σ := (kn (argS 0 ([N x, N y, N z, B true].map .one)) [])) (cs := [True, True, True, True, True, True, True, True, (0 : Nat) < z ∧ up (x * y) z < TOP, True, True, True, True, True, True, True, True, True, True, (0 : Nat) < z ∧ up (x * y) z < TOP, True, True, True, True, True, True, True, True, True, True, up (x * y) z = up (x * y) z, True, True, True, True, True, True, True]) (o' := .ret) (rs := Try.f24.results.toList) (v := (.one (B true))) (H := ([] : List (Nat × Bk))) (by kernel_rfl) (.inr rfl) (by ((simp only [conj, and_true, true_and, and_self, cmp_lt0, cmp_le0, cmp_ge0, cmp_gt0, reduceCtorEq, not_false_eq_true]) <;> first | omega | (simp_all; done) | (simp_all; omega))) fun _ _ => rfl
    · skip
      exact goes_ret (ctx_ok tN_ok 40) mixed rfl (orc := way [(18, 1), (26, 1)]) (stops := []) (f := 3000) (k := [.code (bodyOf Try.f24)]) (o := .norm) (σ := (kn (argS 0 ([N x, N y, N z, B true].map .one)) [])) (cs := [True, True, True, True, True, True, True, True, (0 : Nat) < z ∧ TOP ≤ up (x * y) z, True, True, True, True, True, True, True, True, True, True, (0 : Nat) < z ∧ TOP ≤ up (x * y) z, True, True, True, True, True, True, True, True, True, True, (0 : Nat) = (0 : Nat), True, True, True, True, True, True, True]) (o' := .ret) (rs := Try.f24.results.toList) (v := (.one (B true))) (H := ([] : List (Nat × Bk))) (by kernel_rfl) (.inr rfl) (by ((simp only [conj, and_true, true_and, and_self, cmp_lt0, cmp_le0, cmp_ge0, cmp_gt0, reduceCtorEq, not_false_eq_true]) <;> first | omega | (simp_all; done) | (simp_all; omega))) fun _ _ => rfl
    · skip
      exact goes_ret (ctx_ok tN_ok 40) mixed rfl (orc := way [(18, 2), (26, 2)]) (stops := []) (f := 3000) (k := [.code (bodyOf Try.f24)]) (o := .norm) (σ := (kn (argS 0 ([N x, N y, N z, B true].map .one)) [])) (cs := [True, True, True, True, True, True, True, True, z = (0 : Nat), True, True, True, True, True, True, True, True, True, True, z = (0 : Nat), True, True, True, True, True, True, True, True, True, True, (0 : Nat) = (0 : Nat), True, True, True, True, True, True, True]) (o' := .ret) (rs := Try.f24.results.toList) (v := (.one (B true))) (H := ([] : List (Nat × Bk))) (by kernel_rfl) (.inr rfl) (by ((simp only [conj, and_true, true_and, and_self, cmp_lt0, cmp_le0, cmp_ge0, cmp_gt0, reduceCtorEq, not_false_eq_true]) <;> first | omega | (simp_all; done) | (simp_all; omega))) fun _ _ => rfl

theorem num_parts_owes {x y z : Nat} (hx : x < TOP) (hy : y < TOP) (hz : z < TOP) (b : Bool) : Owes 24 [N x, N y, N z, B b] [(True, .one (B true))] := by
  cases b
  · exact num_partsF_owes hx hy hz
  · exact num_partsT_owes hx hy hz

theorem num_wholeF_owes {x y : Nat} (hx : x < TOP) (hy : y < TOP) :
    Owes 26 [N x, N y, B false] [(True, .one (B true))] := by
  have ht := top_eq
  intro p0 hp0 hc
  simp only [List.mem_cons, List.not_mem_nil, or_false] at hp0
  subst hp0
  · have hc' : True := hc
    have hpl : (.one (B true) : Sv).all Av.plain := by ((first | refine tupP ?_ | refine oneP ?_) <;> first | (first | exact E_plain _ | exact B_plain _ | exact lit_plain _ _ | exact int_plain _ _ | exact N_plain (by omega) | exact N_plain2 (by omega) (by omega) | assumption) | ((repeat' (first | exact argsP_nil | refine argsP_cons ?_ ?_)) <;> (first | exact E_plain _ | exact B_plain _ | exact lit_plain _ _ | exact int_plain _ _ | exact N_plain (by omega) | exact N_plain2 (by omega) (by omega) | assumption)))
    refine ⟨hpl, pure_calls' (ctx_ok tN_ok 40) Try.func26 (c := bodyOf Try.f26) rfl rfl (args := [N x, N y, B false]) (Nat.le_of_ble_eq_true (by kernel_rfl)) (by ((repeat' (first | exact argsP_nil | refine argsP_cons ?_ ?_)) <;> (first | exact E_plain _ | exact B_plain _ | exact lit_plain _ _ | exact int_plain _ _ | exact N_plain (by omega) | exact N_plain2 (by omega) (by omega) | assumption))) hpl (fun w0 => ?_)⟩
    by_cases h : y = 0
    · skip
      exact goes_ret (ctx_ok tN_ok 40) mixed rfl (orc := way [(14, 2)]) (stops := []) (f := 3000) (k := [.code (bodyOf Try.f26)]) (o := .norm) (σ := (kn (argS 0 ([N x, N y, B false].map .one)) [])) (cs := [True, True, True, True, True, True, True, y = (0 : Nat), True, True, True, True, True, True, True, True, y = (0 : Nat), True, True, True, True, True, True, True, True, (0 : Nat) = y, True, True]) (o' := .ret) (rs := Try.f26.results.toList) (v := (.one (B true))) (H := ([] : List (Nat × Bk))) (by kernel_rfl) (.inr rfl) (by ((simp only [conj, and_true, true_and, and_self, cmp_lt0, cmp_le0, cmp_ge0, cmp_gt0, reduceCtorEq, not_false_eq_true]) <;> first | omega | (simp_all; done) | (simp_all; omega))) fun _ _ => rfl
    · skip
      have e : x * y / y = x := Nat.mul_div_cancel _ (by omega)
      exact goes_ret (ctx_ok tN_ok 40) mixed rfl (orc := way [(19, 1)]) (stops := []) (f := 3000) (k := [.code (bodyOf Try.f26)]) (o := .norm) (σ := (kn (argS 0 ([N x, N y, B false].map .one)) [])) (cs := [True, True, True, True, True, True, True, (0 : Nat) < y ∧ x * y / y < TOP, True, True, True, True, True, True, True, True, ¬y = (0 : Nat), True, True, True, True, True, True, True, True, x * y / y = x, True, True]) (o' := .ret) (rs := Try.f26.results.toList) (v := (.one (B true))) (H := ([] : List (Nat × Bk))) (by kernel_rfl) (.inr rfl) (by ((simp only [conj, and_true, true_and, and_self, cmp_lt0, cmp_le0, cmp_ge0, cmp_gt0, reduceCtorEq, not_false_eq_true]) <;> first | omega | (simp_all; done) | (simp_all; omega))) fun _ _ => rfl

theorem num_wholeT_owes {x y : Nat} (hx : x < TOP) (hy : y < TOP) :
    Owes 26 [N x, N y, B true] [(True, .one (B true))] := by
  have ht := top_eq
  intro p0 hp0 hc
  simp only [List.mem_cons, List.not_mem_nil, or_false] at hp0
  subst hp0
  · have hc' : True := hc
    have hpl : (.one (B true) : Sv).all Av.plain := by ((first | refine tupP ?_ | refine oneP ?_) <;> first | (first | exact E_plain _ | exact B_plain _ | exact lit_plain _ _ | exact int_plain _ _ | exact N_plain (by omega) | exact N_plain2 (by omega) (by omega) | assumption) | ((repeat' (first | exact argsP_nil | refine argsP_cons ?_ ?_)) <;> (first | exact E_plain _ | exact B_plain _ | exact lit_plain _ _ | exact int_plain _ _ | exact N_plain (by omega) | exact N_plain2 (by omega) (by omega) | assumption)))
    refine ⟨hpl, pure_calls' (ctx_ok tN_ok 40) Try.func26 (c := bodyOf Try.f26) rfl rfl (args := [N x, N y, B true]) (Nat.le_of_ble_eq_true (by kernel_rfl)) (by ((repeat' (first | exact argsP_nil | refine argsP_cons ?_ ?_)) <;> (first | exact E_plain _ | exact B_plain _ | exact lit_plain _ _ | exact int_plain _ _ | exact N_plain (by omega) | exact N_plain2 (by omega) (by omega) | assumption))) hpl (fun w0 => ?_)⟩
    by_cases h : y = 0
    · skip
      exact goes_ret (ctx_ok tN_ok 40) mixed rfl (orc := way [(14, 2)]) (stops := []) (f := 3000) (k := [.code (bodyOf Try.f26)]) (o := .norm) (σ := (kn (argS 0 ([N x, N y, B true].map .one)) [])) (cs := [True, True, True, True, True, True, True, y = (0 : Nat), True, True, True, True, True, True, True, True, y = (0 : Nat), True, True, True, True, True, True, True, True, (0 : Nat) = y, True, True]) (o' := .ret) (rs := Try.f26.results.toList) (v := (.one (B true))) (H := ([] : List (Nat × Bk))) (by kernel_rfl) (.inr rfl) (by ((simp only [conj, and_true, true_and, and_self, cmp_lt0, cmp_le0, cmp_ge0, cmp_gt0, reduceCtorEq, not_false_eq_true]) <;> first | omega | (simp_all; done) | (simp_all; omega))) fun _ _ => rfl
    · skip
      have e : up (x * y) y = x := by rw [up_zero (by omega) (Nat.mul_mod_left x y), Nat.mul_div_cancel _ (by omega)]
      exact goes_ret (ctx_ok tN_ok 40) mixed rfl (orc := way [(19, 1)]) (stops := []) (f := 3000) (k := [.code (bodyOf Try.f26)]) (o := .norm) (σ := (kn (argS 0 ([N x, N y, B true].map .one)) [])) (cs := [True, True, True, True, True, True, True, (0 : Nat) < y ∧ up (x * y) y < TOP, True, True, True, True, True, True, True, True, ¬y = (0 : Nat), True, True, True, True, True, True, True, True, up (x * y) y = x, True, True]) (o' := .ret) (rs := Try.f26.results.toList) (v := (.one (B true))) (H := ([] : List (Nat × Bk))) (by kernel_rfl) (.inr rfl) (by ((simp only [conj, and_true, true_and, and_self, cmp_lt0, cmp_le0, cmp_ge0, cmp_gt0, reduceCtorEq, not_false_eq_true]) <;> first | omega | (simp_all; done) | (simp_all; omega))) fun _ _ => rfl

theorem num_whole_owes {x y : Nat} (hx : x < TOP) (hy : y < TOP) (b : Bool) : Owes 26 [N x, N y, B b] [(True, .one (B true))] := by
  cases b
  · exact num_wholeF_owes hx hy
  · exact num_wholeT_owes hx hy

theorem num_back_owes {x y : Nat} (hx : x < TOP) (hy : y < TOP) :
    Owes 27 [N x, N y] [(True, .one (B true))] := by
  have ht := top_eq
  intro p0 hp0 hc
  simp only [List.mem_cons, List.not_mem_nil, or_false] at hp0
  subst hp0
  · have hc' : True := hc
    have hpl : (.one (B true) : Sv).all Av.plain := by ((first | refine tupP ?_ | refine oneP ?_) <;> first | (first | exact E_plain _ | exact B_plain _ | exact lit_plain _ _ | exact int_plain _ _ | exact N_plain (by omega) | exact N_plain2 (by omega) (by omega) | assumption) | ((repeat' (first | exact argsP_nil | refine argsP_cons ?_ ?_)) <;> (first | exact E_plain _ | exact B_plain _ | exact lit_plain _ _ | exact int_plain _ _ | exact N_plain (by omega) | exact N_plain2 (by omega) (by omega) | assumption)))
    refine ⟨hpl, pure_calls' (ctx_ok tN_ok 62) Try.func27 (c := bodyOf Try.f27) rfl rfl (args := [N x, N y]) (Nat.le_of_ble_eq_true (by kernel_rfl)) (by ((repeat' (first | exact argsP_nil | refine argsP_cons ?_ ?_)) <;> (first | exact E_plain _ | exact B_plain _ | exact lit_plain _ _ | exact int_plain _ _ | exact N_plain (by omega) | exact N_plain2 (by omega) (by omega) | assumption))) hpl (fun w0 => ?_)⟩
    rcases Nat.lt_or_ge (x + y) TOP with h | h
    · skip
      exact goes_ret (ctx_ok tN_ok 62) mixed rfl (orc := way []) (stops := []) (f := 3000) (k := [.code (bodyOf Try.f27)]) (o := .norm) (σ := (kn (argS 0 ([N x, N y].map .one)) [])) (cs := [True, True, True, True, True, x + y < TOP, True, True, True, True, True, True, True, True, y + x < TOP, True, True, True, True, True, True, True, True, x + y = y + x, True, True, True, True, True, True, True, True, True, y ≤ x + y, True, True, True, True, True, True, True, True, True, True, x + y - y = x, True, True, True, True, True, True, True, True, True, (0 : Int) ≤ cmpN (x + y) x, True, True, True, True, True, (0 : Int) ≤ cmpN (x + y) y, True, True]) (o' := .ret) (rs := Try.f27.results.toList) (v := (.one (B true))) (H := ([] : List (Nat × Bk))) (by kernel_rfl) (.inr rfl) (by ((simp only [conj, and_true, true_and, and_self, cmp_lt0, cmp_le0, cmp_ge0, cmp_gt0, reduceCtorEq, not_false_eq_true]) <;> first | omega | (simp_all; done) | (simp_all; omega))) fun _ _ => rfl
    · skip
      exact goes_ret (ctx_ok tN_ok 62) mixed rfl (orc := way [(14, 1), (20, 1)]) (stops := []) (f := 3000) (k := [.code (bodyOf Try.f27)]) (o := .norm) (σ := (kn (argS 0 ([N x, N y].map .one)) [])) (cs := [True, True, True, True, True, TOP ≤ x + y, True, True, True, True, True, True, True, True, TOP ≤ y + x, True, True, True, True, True, True, True, True, (0 : Nat) = (0 : Nat), True, True, True, True, True, True, True, True, True]) (o' := .ret) (rs := Try.f27.results.toList) (v := (.one (B true))) (H := ([] : List (Nat × Bk))) (by kernel_rfl) (.inr rfl) (by ((simp only [conj, and_true, true_and, and_self, cmp_lt0, cmp_le0, cmp_ge0, cmp_gt0, reduceCtorEq, not_false_eq_true]) <;> first | omega | (simp_all; done) | (simp_all; omega))) fun _ _ => rfl

theorem num_sums_owes {x y : Nat} (hx : x < TOP) (hy : y < TOP) :
    Owes 30 [N x, N y] [(True, .one (B true))] := by
  have ht := top_eq
  intro p0 hp0 hc
  simp only [List.mem_cons, List.not_mem_nil, or_false] at hp0
  subst hp0
  · have hc' : True := hc
    have hpl : (.one (B true) : Sv).all Av.plain := by ((first | refine tupP ?_ | refine oneP ?_) <;> first | (first | exact E_plain _ | exact B_plain _ | exact lit_plain _ _ | exact int_plain _ _ | exact N_plain (by omega) | exact N_plain2 (by omega) (by omega) | assumption) | ((repeat' (first | exact argsP_nil | refine argsP_cons ?_ ?_)) <;> (first | exact E_plain _ | exact B_plain _ | exact lit_plain _ _ | exact int_plain _ _ | exact N_plain (by omega) | exact N_plain2 (by omega) (by omega) | assumption)))
    refine ⟨hpl, pure_calls' (ctx_ok tN_ok 100) Try.func30 (c := bodyOf Try.f30) rfl rfl (args := [N x, N y]) (Nat.le_of_ble_eq_true (by kernel_rfl)) (by ((repeat' (first | exact argsP_nil | refine argsP_cons ?_ ?_)) <;> (first | exact E_plain _ | exact B_plain _ | exact lit_plain _ _ | exact int_plain _ _ | exact N_plain (by omega) | exact N_plain2 (by omega) (by omega) | assumption))) hpl (fun w0 => ?_)⟩
    rcases Nat.lt_or_ge (x + y) TOP with h | h <;> rcases Nat.lt_or_ge x y with h2 | h2
    · skip
      exact goes_ret (ctx_ok tN_ok 100) mixed rfl (orc := way [(26, 1)]) (stops := []) (f := 3000) (k := [.code (bodyOf Try.f30)]) (o := .norm) (σ := (kn (argS 0 ([N x, N y].map .one)) [])) (cs := [True, True, True, True, True, x + y < TOP, True, True, True, True, True, True, True, True, x + y < TOP, True, True, True, True, True, True, True, True, x < y, True, True, True, True, True, True, True, True, x + y = x + y, True, True, True, True, True, True, True, True, True, True, True, True, True, True, True, True, True, cmpN x y < (0 : Int), True, True, True, True, True, True, True, True, (0 : Nat) = (0 : Nat), True, True, True, True, True, True, x - y = (0 : Nat), True, True, True, True, True, True, min x y = x, True, True]) (o' := .ret) (rs := Try.f30.results.toList) (v := (.one (B true))) (H := ([] : List (Nat × Bk))) (by kernel_rfl) (.inr rfl) (by ((simp only [conj, and_true, true_and, and_self, cmp_lt0, cmp_le0, cmp_ge0, cmp_gt0, reduceCtorEq, not_false_eq_true]) <;> first | omega | (simp_all; done) | (simp_all; omega))) fun _ _ => rfl
    · skip
      exact goes_ret (ctx_ok tN_ok 100) mixed rfl (orc := way [(49, 1)]) (stops := []) (f := 3000) (k := [.code (bodyOf Try.f30)]) (o := .norm) (σ := (kn (argS 0 ([N x, N y].map .one)) [])) (cs := [True, True, True, True, True, x + y < TOP, True, True, True, True, True, True, True, True, x + y < TOP, True, True, True, True, True, True, True, True, y ≤ x, True, True, True, True, True, True, True, True, x + y = x + y, True, True, True, True, True, True, True, True, True, True, True, True, True, True, True, True, True, ¬cmpN x y < (0 : Int), True, True, True, True, True, True, True, True, True, True, x - y = x - y, True, True, True, True, True, True, x - y = x - y, True, True, True, True, True, True, min x y = y, True, True]) (o' := .ret) (rs := Try.f30.results.toList) (v := (.one (B true))) (H := ([] : List (Nat × Bk))) (by kernel_rfl) (.inr rfl) (by ((simp only [conj, and_true, true_and, and_self, cmp_lt0, cmp_le0, cmp_ge0, cmp_gt0, reduceCtorEq, not_false_eq_true]) <;> first | omega | (simp_all; done) | (simp_all; omega))) fun _ _ => rfl
    · skip
      exact goes_ret (ctx_ok tN_ok 100) mixed rfl (orc := way [(14, 1), (20, 1), (26, 1)]) (stops := []) (f := 3000) (k := [.code (bodyOf Try.f30)]) (o := .norm) (σ := (kn (argS 0 ([N x, N y].map .one)) [])) (cs := [True, True, True, True, True, TOP ≤ x + y, True, True, True, True, True, True, True, True, TOP ≤ x + y, True, True, True, True, True, True, True, True, x < y, True, True, True, True, True, True, True, True, (0 : Nat) = (0 : Nat), True, True, True, True, True, True, True, True, True, True, True, True, True, True, True, True, True, cmpN x y < (0 : Int), True, True, True, True, True, True, True, True, (0 : Nat) = (0 : Nat), True, True, True, True, True, True, x - y = (0 : Nat), True, True, True, True, True, True, min x y = x, True, True]) (o' := .ret) (rs := Try.f30.results.toList) (v := (.one (B true))) (H := ([] : List (Nat × Bk))) (by kernel_rfl) (.inr rfl) (by ((simp only [conj, and_true, true_and, and_self, cmp_lt0, cmp_le0, cmp_ge0, cmp_gt0, reduceCtorEq, not_false_eq_true]) <;> first | omega | (simp_all; done) | (simp_all; omega))) fun _ _ => rfl
    · skip
      exact goes_ret (ctx_ok tN_ok 100) mixed rfl (orc := way [(14, 1), (20, 1), (49, 1)]) (stops := []) (f := 3000) (k := [.code (bodyOf Try.f30)]) (o := .norm) (σ := (kn (argS 0 ([N x, N y].map .one)) [])) (cs := [True, True, True, True, True, TOP ≤ x + y, True, True, True, True, True, True, True, True, TOP ≤ x + y, True, True, True, True, True, True, True, True, y ≤ x, True, True, True, True, True, True, True, True, (0 : Nat) = (0 : Nat), True, True, True, True, True, True, True, True, True, True, True, True, True, True, True, True, True, ¬cmpN x y < (0 : Int), True, True, True, True, True, True, True, True, True, True, x - y = x - y, True, True, True, True, True, True, x - y = x - y, True, True, True, True, True, True, min x y = y, True, True]) (o' := .ret) (rs := Try.f30.results.toList) (v := (.one (B true))) (H := ([] : List (Nat × Bk))) (by kernel_rfl) (.inr rfl) (by ((simp only [conj, and_true, true_and, and_self, cmp_lt0, cmp_le0, cmp_ge0, cmp_gt0, reduceCtorEq, not_false_eq_true]) <;> first | omega | (simp_all; done) | (simp_all; omega))) fun _ _ => rfl

end M
end Go.Proofs.Ytmjdmhelmgcanaa
