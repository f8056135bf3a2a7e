/- Joined out of smaller texts: Dig, DigB, DigC, DigG, Mul, Times, TimesB, Low. -/
import Derived.Test.YtmjdmhelmgcanaaDoorJA
import Derived.OwnWalk
import Derived.Maps.AppendAt
import Derived.Shelf.Bits.Mul64
import Derived.Test.YtmjdmhelmgcanaaDoorJD
/- A number's sixteen digits of 16 bits, as the document's r01 reckons with them. -/
namespace Go.Proofs.YtmjdmhelmgcanaaDoor
open Go.RowKit

theorem info26 : (Tryd.prog.info? 22).map (fun i => (i.zero, i.size, i.bytes)) = some (some (.int .u64 0), 1, 8) := by kernel_rfl

/-- a row of words -/
def row (f : Nat → Nat) (n : Nat) : List Value := (List.range n).map fun i => .int .u64 (f i : Nat)
/-- a digit -/
def dg (x i : Nat) : Nat := x / 65536 ^ i % 65536

theorem row_length (f : Nat → Nat) (n : Nat) : (row f n).length = n := by simp [row]
theorem row_succ (f : Nat → Nat) (n : Nat) : row f (n + 1) = row f n ++ [.int .u64 (f n : Nat)] := by simp [row, List.range_succ]
theorem row_congr {f g : Nat → Nat} {n : Nat} (h : ∀ i, i < n → f i = g i) : row f n = row g n := by
  unfold row; apply List.map_congr_left; intro a ha; rw [h a (List.mem_range.1 ha)]
theorem row_get (f : Nat → Nat) {n i : Nat} (h : i < n) : (row f n)[i]? = some (.int .u64 (f i : Nat)) := by
  simp [row, h]

theorem dg_lt (x i : Nat) : dg x i < 65536 := Nat.mod_lt _ (by omega)

/-- a digit by the number's parts -/
theorem dg_lm (x : Nat) {k : Nat} (hk : k < 16) : dg x k = lm x (k / 4) / 2 ^ (16 * (k % 4)) % 65536 := by
  have h : k = 0 ∨ k = 1 ∨ k = 2 ∨ k = 3 ∨ k = 4 ∨ k = 5 ∨ k = 6 ∨ k = 7 ∨ k = 8 ∨ k = 9 ∨ k = 10 ∨ k = 11 ∨ k = 12 ∨ k = 13 ∨ k = 14 ∨ k = 15 := by omega
  rcases h with rfl | rfl | rfl | rfl | rfl | rfl | rfl | rfl | rfl | rfl | rfl | rfl | rfl | rfl | rfl | rfl <;>
    (simp only [dg, lm, Nat.reduceDiv, Nat.reduceMod, Nat.reduceMul, Nat.reducePow]; omega)

theorem own_base {w : World} {B B' e size n : Nat} {v : Value} {xs : List Value} (h : w.ownsRow B' e size v n xs) (hB : B ≤ B') : w.ownsRow B e size v n xs :=
  ⟨h.1, h.2.imp id fun ⟨g, cap, cur, a, b, c⟩ => ⟨g, cap, cur, a, Nat.le_trans hB b, c⟩⟩
theorem own_below {w w' : World} {B e size n : Nat} {v : Value} {xs : List Value} (h : w.ownsRow B e size v n xs) (hb : Below w.heap.size w w') : w'.ownsRow B e size v n xs := by
  refine ⟨h.1, ?_⟩
  rcases h.2 with hn | ⟨g, cap, cur, rfl, hg, hgg, rest⟩
  · exact .inl hn
  · exact .inr ⟨g, cap, cur, rfl, hg, by rw [hb.block g (Array.getElem?_eq_some_iff.1 hgg).1]; exact hgg, rest⟩

/-- the number that digits are -/
def num (f : Nat → Nat) : Nat → Nat
  | 0 => 0
  | k + 1 => num f k + f k * 65536 ^ k

theorem num_dg (x k : Nat) : num (dg x) k = x % 65536 ^ k := by
  induction k with
  | zero => simp [num, Nat.mod_one]
  | succ k ih => rw [num, ih, dg, Nat.pow_succ, Nat.mod_mul, Nat.mul_comm (x / 65536 ^ k % 65536)]
theorem num_dg16 {x : Nat} (h : x < TOP) : num (dg x) 16 = x := by
  rw [num_dg]; exact Nat.mod_eq_of_lt h
theorem num_lt {f : Nat → Nat} {k : Nat} (h : ∀ i, i < k → f i < 65536) : num f k < 65536 ^ k := by
  induction k with
  | zero => simp [num]
  | succ k ih =>
    have h1 := ih fun i hi => h i (by omega)
    have h2 : f k * 65536 ^ k ≤ 65535 * 65536 ^ k := Nat.mul_le_mul_right _ (by have := h k (by omega); omega)
    rw [num, Nat.pow_succ]; omega
theorem num_congr {f g : Nat → Nat} {k : Nat} (h : ∀ i, i < k → f i = g i) : num f k = num g k := by
  induction k with
  | zero => rfl
  | succ k ih => rw [num, num, ih fun i hi => h i (by omega), h k (by omega)]
theorem num_add (f g : Nat → Nat) (k : Nat) : num (fun i => f i + g i) k = num f k + num g k := by
  induction k with
  | zero => rfl
  | succ k ih => rw [num, num, num, ih, Nat.add_mul]; omega

/-- what an append to one's own row leaves -/
theorem grow_step {B e n : Nat} {a wr w1 : World} {o : Obj} {v : Value} {xs : List Value} (hb : Below B a wr) (hB : B ≤ a.heap.size) (hown : wr.ownsRow B e 1 v n xs)
    (hg : (wr.alloc o).grownBy w1 v.ownBlock) : Below B a w1 :=
  (hb.alloc (Nat.le_trans hB hb.size) o).grown hg (by simp; have := hb.size; omega) (fun j hj => (hown.lt j hj).1)

set_option maxHeartbeats 4000000 in
set_option maxRecDepth 1000000 in
theorem digits_calls (x : Nat) (w : World) :
    Calls Tryd.prog 21 #[V x] w fun e w' => ∃ v, e = .returned v ∧ w'.ownsRow w.heap.size 22 1 v 16 (row (dg x) 16) ∧ Below w.heap.size w w' := by
  obtain ⟨i0, hi, hz0, hz1, hz2⟩ := info_parts info26
  unfold V V4
  go_enter Tryd.func21, Tryd.ntmps21
  go_wp2
  go_loopw [3, 4] (fun v i wr => ∃ k : Nat, k ≤ 16 ∧ i = .int .i64 k ∧ wr.ownsRow (w.heap.size + 1) 22 1 v k (row (dg x) k) ∧
      Below (w.heap.size + 1) (w.alloc (.cells #[.int .u64 (lm x 0 : Nat), .int .u64 (lm x 1 : Nat), .int .u64 (lm x 2 : Nat), .int .u64 (lm x 3 : Nat)] 24)) wr)
    (fun _ i _ => 16 - (intOf i).toNat)
  case atStart => exact ⟨0, Nat.zero_le _, rfl, World.ownsRow_nil _ _ _ _, Below.refl _ _⟩
  case round =>
    obtain ⟨k, hk, rfl, hown, hbel⟩ := hrel
    have hsz := hbel.size
    simp only [World.size_alloc] at hsz
    rcases Nat.lt_or_ge k 16 with hlt | hge
    · have h0 : wr.cell? ⟨w.heap.size, 0, none⟩ = some (.int .u64 (lm x 0 : Nat)) := by rw [hbel.cell (Nat.lt_succ_self _), World.cell?_alloc_at _ _ _ _ rfl]; rfl
      have h1 : wr.cell? ⟨w.heap.size, 1, none⟩ = some (.int .u64 (lm x 1 : Nat)) := by rw [hbel.cell (Nat.lt_succ_self _), World.cell?_alloc_at _ _ _ _ rfl]; rfl
      have h2 : wr.cell? ⟨w.heap.size, 2, none⟩ = some (.int .u64 (lm x 2 : Nat)) := by rw [hbel.cell (Nat.lt_succ_self _), World.cell?_alloc_at _ _ _ _ rfl]; rfl
      have h3 : wr.cell? ⟨w.heap.size, 3, none⟩ = some (.int .u64 (lm x 3 : Nat)) := by rw [hbel.cell (Nat.lt_succ_self _), World.cell?_alloc_at _ _ _ _ rfl]; rfl
      have h : k = 0 ∨ k = 1 ∨ k = 2 ∨ k = 3 ∨ k = 4 ∨ k = 5 ∨ k = 6 ∨ k = 7 ∨ k = 8 ∨ k = 9 ∨ k = 10 ∨ k = 11 ∨ k = 12 ∨ k = 13 ∨ k = 14 ∨ k = 15 := by omega
      obtain ⟨d, hd⟩ : ∃ d, d = dg x k := ⟨_, rfl⟩
      have HD : Hid (d = dg x k ∧ d = lm x (k / 4) / 2 ^ (16 * (k % 4)) % 65536) := ⟨hd, hd.trans (dg_lm x hlt)⟩
      clear hk hd
      rcases h with rfl | h
      · go_wp2_with (at_builtin; refine wpList_append_own _ rfl _ _ 44 rfl (w.heap.size + 1) 22 i0 (.int .u64 0) 1 8 Tryd.underlying44 hi hz0 hz1 hz2 rfl (by decide) _ _ _ rfl (hown.alloc _) ⟨wr.heap.size, 0, none⟩ 1 1 [.int .u64 (d : Nat)] rfl rfl ?c1 ?c2 ?c3 ?c4 ?c5 ?_)
        case c1 =>
          intro j u hj
          match j, hj with
          | 0, hj =>
            simp only [List.getElem?_cons_zero, Option.some.injEq] at hj
            subst hj
            have e := HD.out.2
            simp only [Nat.reduceDiv, Nat.reduceMod, Nat.reduceMul, Nat.reducePow, Nat.div_one] at e
            rw [e]
            simp [Addr.add]
        case c2 => intro u hu; simp at hu; subst hu; rfl
        case c3 => unfold maxLen; omega
        case c4 => omega
        case c5 => simp; omega
        · intro v' w1 hown' hgrow _
          have R := grow_step hbel (by simp) hown hgrow
          rw [HD.out.1, ← row_succ] at hown'
          clear hgrow hown h0 h1 h2 h3 HD
          go_wp2
          go_roundw
          case rel => exact ⟨1, by omega, by go_num, hown', R⟩
          case measure => simp [intOf] <;> omega
      rcases h with rfl | h
      · go_wp2_with (at_builtin; refine wpList_append_own _ rfl _ _ 44 rfl (w.heap.size + 1) 22 i0 (.int .u64 0) 1 8 Tryd.underlying44 hi hz0 hz1 hz2 rfl (by decide) _ _ _ rfl (hown.alloc _) ⟨wr.heap.size, 0, none⟩ 1 1 [.int .u64 (d : Nat)] rfl rfl ?c1 ?c2 ?c3 ?c4 ?c5 ?_)
        case c1 =>
          intro j u hj
          match j, hj with
          | 0, hj =>
            simp only [List.getElem?_cons_zero, Option.some.injEq] at hj
            subst hj
            have e := HD.out.2
            simp only [Nat.reduceDiv, Nat.reduceMod, Nat.reduceMul, Nat.reducePow] at e
            rw [e]
            simp [Addr.add]
        case c2 => intro u hu; simp at hu; subst hu; rfl
        case c3 => unfold maxLen; omega
        case c4 => omega
        case c5 => simp; omega
        · intro v' w1 hown' hgrow _
          have R := grow_step hbel (by simp) hown hgrow
          rw [HD.out.1, ← row_succ] at hown'
          clear hgrow hown h0 h1 h2 h3 HD
          go_wp2
          go_roundw
          case rel => exact ⟨2, by omega, by go_num, hown', R⟩
          case measure => simp [intOf] <;> omega
      rcases h with rfl | h
      · go_wp2_with (at_builtin; refine wpList_append_own _ rfl _ _ 44 rfl (w.heap.size + 1) 22 i0 (.int .u64 0) 1 8 Tryd.underlying44 hi hz0 hz1 hz2 rfl (by decide) _ _ _ rfl (hown.alloc _) ⟨wr.heap.size, 0, none⟩ 1 1 [.int .u64 (d : Nat)] rfl rfl ?c1 ?c2 ?c3 ?c4 ?c5 ?_)
        case c1 =>
          intro j u hj
          match j, hj with
          | 0, hj =>
            simp only [List.getElem?_cons_zero, Option.some.injEq] at hj
            subst hj
            have e := HD.out.2
            simp only [Nat.reduceDiv, Nat.reduceMod, Nat.reduceMul, Nat.reducePow] at e
            rw [e]
            simp [Addr.add]
        case c2 => intro u hu; simp at hu; subst hu; rfl
        case c3 => unfold maxLen; omega
        case c4 => omega
        case c5 => simp; omega
        · intro v' w1 hown' hgrow _
          have R := grow_step hbel (by simp) hown hgrow
          rw [HD.out.1, ← row_succ] at hown'
          clear hgrow hown h0 h1 h2 h3 HD
          go_wp2
          go_roundw
          case rel => exact ⟨3, by omega, by go_num, hown', R⟩
          case measure => simp [intOf] <;> omega
      rcases h with rfl | h
      · go_wp2_with (at_builtin; refine wpList_append_own _ rfl _ _ 44 rfl (w.heap.size + 1) 22 i0 (.int .u64 0) 1 8 Tryd.underlying44 hi hz0 hz1 hz2 rfl (by decide) _ _ _ rfl (hown.alloc _) ⟨wr.heap.size, 0, none⟩ 1 1 [.int .u64 (d : Nat)] rfl rfl ?c1 ?c2 ?c3 ?c4 ?c5 ?_)
        case c1 =>
          intro j u hj
          match j, hj with
          | 0, hj =>
            simp only [List.getElem?_cons_zero, Option.some.injEq] at hj
            subst hj
            have e := HD.out.2
            simp only [Nat.reduceDiv, Nat.reduceMod, Nat.reduceMul, Nat.reducePow] at e
            rw [e]
            simp [Addr.add]
        case c2 => intro u hu; simp at hu; subst hu; rfl
        case c3 => unfold maxLen; omega
        case c4 => omega
        case c5 => simp; omega
        · intro v' w1 hown' hgrow _
          have R := grow_step hbel (by simp) hown hgrow
          rw [HD.out.1, ← row_succ] at hown'
          clear hgrow hown h0 h1 h2 h3 HD
          go_wp2
          go_roundw
          case rel => exact ⟨4, by omega, by go_num, hown', R⟩
          case measure => simp [intOf] <;> omega
      rcases h with rfl | h
      · go_wp2_with (at_builtin; refine wpList_append_own _ rfl _ _ 44 rfl (w.heap.size + 1) 22 i0 (.int .u64 0) 1 8 Tryd.underlying44 hi hz0 hz1 hz2 rfl (by decide) _ _ _ rfl (hown.alloc _) ⟨wr.heap.size, 0, none⟩ 1 1 [.int .u64 (d : Nat)] rfl rfl ?c1 ?c2 ?c3 ?c4 ?c5 ?_)
        case c1 =>
          intro j u hj
          match j, hj with
          | 0, hj =>
            simp only [List.getElem?_cons_zero, Option.some.injEq] at hj
            subst hj
            have e := HD.out.2
            simp only [Nat.reduceDiv, Nat.reduceMod, Nat.reduceMul, Nat.reducePow, Nat.div_one] at e
            rw [e]
            simp [Addr.add]
        case c2 => intro u hu; simp at hu; subst hu; rfl
        case c3 => unfold maxLen; omega
        case c4 => omega
        case c5 => simp; omega
        · intro v' w1 hown' hgrow _
          have R := grow_step hbel (by simp) hown hgrow
          rw [HD.out.1, ← row_succ] at hown'
          clear hgrow hown h0 h1 h2 h3 HD
          go_wp2
          go_roundw
          case rel => exact ⟨5, by omega, by go_num, hown', R⟩
          case measure => simp [intOf] <;> omega
      rcases h with rfl | h
      · go_wp2_with (at_builtin; refine wpList_append_own _ rfl _ _ 44 rfl (w.heap.size + 1) 22 i0 (.int .u64 0) 1 8 Tryd.underlying44 hi hz0 hz1 hz2 rfl (by decide) _ _ _ rfl (hown.alloc _) ⟨wr.heap.size, 0, none⟩ 1 1 [.int .u64 (d : Nat)] rfl rfl ?c1 ?c2 ?c3 ?c4 ?c5 ?_)
        case c1 =>
          intro j u hj
          match j, hj with
          | 0, hj =>
            simp only [List.getElem?_cons_zero, Option.some.injEq] at hj
            subst hj
            have e := HD.out.2
            simp only [Nat.reduceDiv, Nat.reduceMod, Nat.reduceMul, Nat.reducePow] at e
            rw [e]
            simp [Addr.add]
        case c2 => intro u hu; simp at hu; subst hu; rfl
        case c3 => unfold maxLen; omega
        case c4 => omega
        case c5 => simp; omega
        · intro v' w1 hown' hgrow _
          have R := grow_step hbel (by simp) hown hgrow
          rw [HD.out.1, ← row_succ] at hown'
          clear hgrow hown h0 h1 h2 h3 HD
          go_wp2
          go_roundw
          case rel => exact ⟨6, by omega, by go_num, hown', R⟩
          case measure => simp [intOf] <;> omega
      rcases h with rfl | h
      · go_wp2_with (at_builtin; refine wpList_append_own _ rfl _ _ 44 rfl (w.heap.size + 1) 22 i0 (.int .u64 0) 1 8 Tryd.underlying44 hi hz0 hz1 hz2 rfl (by decide) _ _ _ rfl (hown.alloc _) ⟨wr.heap.size, 0, none⟩ 1 1 [.int .u64 (d : Nat)] rfl rfl ?c1 ?c2 ?c3 ?c4 ?c5 ?_)
        case c1 =>
          intro j u hj
          match j, hj with
          | 0, hj =>
            simp only [List.getElem?_cons_zero, Option.some.injEq] at hj
            subst hj
            have e := HD.out.2
            simp only [Nat.reduceDiv, Nat.reduceMod, Nat.reduceMul, Nat.reducePow] at e
            rw [e]
            simp [Addr.add]
        case c2 => intro u hu; simp at hu; subst hu; rfl
        case c3 => unfold maxLen; omega
        case c4 => omega
        case c5 => simp; omega
        · intro v' w1 hown' hgrow _
          have R := grow_step hbel (by simp) hown hgrow
          rw [HD.out.1, ← row_succ] at hown'
          clear hgrow hown h0 h1 h2 h3 HD
          go_wp2
          go_roundw
          case rel => exact ⟨7, by omega, by go_num, hown', R⟩
          case measure => simp [intOf] <;> omega
      rcases h with rfl | h
      · go_wp2_with (at_builtin; refine wpList_append_own _ rfl _ _ 44 rfl (w.heap.size + 1) 22 i0 (.int .u64 0) 1 8 Tryd.underlying44 hi hz0 hz1 hz2 rfl (by decide) _ _ _ rfl (hown.alloc _) ⟨wr.heap.size, 0, none⟩ 1 1 [.int .u64 (d : Nat)] rfl rfl ?c1 ?c2 ?c3 ?c4 ?c5 ?_)
        case c1 =>
          intro j u hj
          match j, hj with
          | 0, hj =>
            simp only [List.getElem?_cons_zero, Option.some.injEq] at hj
            subst hj
            have e := HD.out.2
            simp only [Nat.reduceDiv, Nat.reduceMod, Nat.reduceMul, Nat.reducePow] at e
            rw [e]
            simp [Addr.add]
        case c2 => intro u hu; simp at hu; subst hu; rfl
        case c3 => unfold maxLen; omega
        case c4 => omega
        case c5 => simp; omega
        · intro v' w1 hown' hgrow _
          have R := grow_step hbel (by simp) hown hgrow
          rw [HD.out.1, ← row_succ] at hown'
          clear hgrow hown h0 h1 h2 h3 HD
          go_wp2
          go_roundw
          case rel => exact ⟨8, by omega, by go_num, hown', R⟩
          case measure => simp [intOf] <;> omega
      rcases h with rfl | h
      · go_wp2_with (at_builtin; refine wpList_append_own _ rfl _ _ 44 rfl (w.heap.size + 1) 22 i0 (.int .u64 0) 1 8 Tryd.underlying44 hi hz0 hz1 hz2 rfl (by decide) _ _ _ rfl (hown.alloc _) ⟨wr.heap.size, 0, none⟩ 1 1 [.int .u64 (d : Nat)] rfl rfl ?c1 ?c2 ?c3 ?c4 ?c5 ?_)
        case c1 =>
          intro j u hj
          match j, hj with
          | 0, hj =>
            simp only [List.getElem?_cons_zero, Option.some.injEq] at hj
            subst hj
            have e := HD.out.2
            simp only [Nat.reduceDiv, Nat.reduceMod, Nat.reduceMul, Nat.reducePow, Nat.div_one] at e
            rw [e]
            simp [Addr.add]
        case c2 => intro u hu; simp at hu; subst hu; rfl
        case c3 => unfold maxLen; omega
        case c4 => omega
        case c5 => simp; omega
        · intro v' w1 hown' hgrow _
          have R := grow_step hbel (by simp) hown hgrow
          rw [HD.out.1, ← row_succ] at hown'
          clear hgrow hown h0 h1 h2 h3 HD
          go_wp2
          go_roundw
          case rel => exact ⟨9, by omega, by go_num, hown', R⟩
          case measure => simp [intOf] <;> omega
      rcases h with rfl | h
      · go_wp2_with (at_builtin; refine wpList_append_own _ rfl _ _ 44 rfl (w.heap.size + 1) 22 i0 (.int .u64 0) 1 8 Tryd.underlying44 hi hz0 hz1 hz2 rfl (by decide) _ _ _ rfl (hown.alloc _) ⟨wr.heap.size, 0, none⟩ 1 1 [.int .u64 (d : Nat)] rfl rfl ?c1 ?c2 ?c3 ?c4 ?c5 ?_)
        case c1 =>
          intro j u hj
          match j, hj with
          | 0, hj =>
            simp only [List.getElem?_cons_zero, Option.some.injEq] at hj
            subst hj
            have e := HD.out.2
            simp only [Nat.reduceDiv, Nat.reduceMod, Nat.reduceMul, Nat.reducePow] at e
            rw [e]
            simp [Addr.add]
        case c2 => intro u hu; simp at hu; subst hu; rfl
        case c3 => unfold maxLen; omega
        case c4 => omega
        case c5 => simp; omega
        · intro v' w1 hown' hgrow _
          have R := grow_step hbel (by simp) hown hgrow
          rw [HD.out.1, ← row_succ] at hown'
          clear hgrow hown h0 h1 h2 h3 HD
          go_wp2
          go_roundw
          case rel => exact ⟨10, by omega, by go_num, hown', R⟩
          case measure => simp [intOf] <;> omega
      rcases h with rfl | h
      · go_wp2_with (at_builtin; refine wpList_append_own _ rfl _ _ 44 rfl (w.heap.size + 1) 22 i0 (.int .u64 0) 1 8 Tryd.underlying44 hi hz0 hz1 hz2 rfl (by decide) _ _ _ rfl (hown.alloc _) ⟨wr.heap.size, 0, none⟩ 1 1 [.int .u64 (d : Nat)] rfl rfl ?c1 ?c2 ?c3 ?c4 ?c5 ?_)
        case c1 =>
          intro j u hj
          match j, hj with
          | 0, hj =>
            simp only [List.getElem?_cons_zero, Option.some.injEq] at hj
            subst hj
            have e := HD.out.2
            simp only [Nat.reduceDiv, Nat.reduceMod, Nat.reduceMul, Nat.reducePow] at e
            rw [e]
            simp [Addr.add]
        case c2 => intro u hu; simp at hu; subst hu; rfl
        case c3 => unfold maxLen; omega
        case c4 => omega
        case c5 => simp; omega
        · intro v' w1 hown' hgrow _
          have R := grow_step hbel (by simp) hown hgrow
          rw [HD.out.1, ← row_succ] at hown'
          clear hgrow hown h0 h1 h2 h3 HD
          go_wp2
          go_roundw
          case rel => exact ⟨11, by omega, by go_num, hown', R⟩
          case measure => simp [intOf] <;> omega
      rcases h with rfl | h
      · go_wp2_with (at_builtin; refine wpList_append_own _ rfl _ _ 44 rfl (w.heap.size + 1) 22 i0 (.int .u64 0) 1 8 Tryd.underlying44 hi hz0 hz1 hz2 rfl (by decide) _ _ _ rfl (hown.alloc _) ⟨wr.heap.size, 0, none⟩ 1 1 [.int .u64 (d : Nat)] rfl rfl ?c1 ?c2 ?c3 ?c4 ?c5 ?_)
        case c1 =>
          intro j u hj
          match j, hj with
          | 0, hj =>
            simp only [List.getElem?_cons_zero, Option.some.injEq] at hj
            subst hj
            have e := HD.out.2
            simp only [Nat.reduceDiv, Nat.reduceMod, Nat.reduceMul, Nat.reducePow] at e
            rw [e]
            simp [Addr.add]
        case c2 => intro u hu; simp at hu; subst hu; rfl
        case c3 => unfold maxLen; omega
        case c4 => omega
        case c5 => simp; omega
        · intro v' w1 hown' hgrow _
          have R := grow_step hbel (by simp) hown hgrow
          rw [HD.out.1, ← row_succ] at hown'
          clear hgrow hown h0 h1 h2 h3 HD
          go_wp2
          go_roundw
          case rel => exact ⟨12, by omega, by go_num, hown', R⟩
          case measure => simp [intOf] <;> omega
      rcases h with rfl | h
      · go_wp2_with (at_builtin; refine wpList_append_own _ rfl _ _ 44 rfl (w.heap.size + 1) 22 i0 (.int .u64 0) 1 8 Tryd.underlying44 hi hz0 hz1 hz2 rfl (by decide) _ _ _ rfl (hown.alloc _) ⟨wr.heap.size, 0, none⟩ 1 1 [.int .u64 (d : Nat)] rfl rfl ?c1 ?c2 ?c3 ?c4 ?c5 ?_)
        case c1 =>
          intro j u hj
          match j, hj with
          | 0, hj =>
            simp only [List.getElem?_cons_zero, Option.some.injEq] at hj
            subst hj
            have e := HD.out.2
            simp only [Nat.reduceDiv, Nat.reduceMod, Nat.reduceMul, Nat.reducePow, Nat.div_one] at e
            rw [e]
            simp [Addr.add]
        case c2 => intro u hu; simp at hu; subst hu; rfl
        case c3 => unfold maxLen; omega
        case c4 => omega
        case c5 => simp; omega
        · intro v' w1 hown' hgrow _
          have R := grow_step hbel (by simp) hown hgrow
          rw [HD.out.1, ← row_succ] at hown'
          clear hgrow hown h0 h1 h2 h3 HD
          go_wp2
          go_roundw
          case rel => exact ⟨13, by omega, by go_num, hown', R⟩
          case measure => simp [intOf] <;> omega
      rcases h with rfl | h
      · go_wp2_with (at_builtin; refine wpList_append_own _ rfl _ _ 44 rfl (w.heap.size + 1) 22 i0 (.int .u64 0) 1 8 Tryd.underlying44 hi hz0 hz1 hz2 rfl (by decide) _ _ _ rfl (hown.alloc _) ⟨wr.heap.size, 0, none⟩ 1 1 [.int .u64 (d : Nat)] rfl rfl ?c1 ?c2 ?c3 ?c4 ?c5 ?_)
        case c1 =>
          intro j u hj
          match j, hj with
          | 0, hj =>
            simp only [List.getElem?_cons_zero, Option.some.injEq] at hj
            subst hj
            have e := HD.out.2
            simp only [Nat.reduceDiv, Nat.reduceMod, Nat.reduceMul, Nat.reducePow] at e
            rw [e]
            simp [Addr.add]
        case c2 => intro u hu; simp at hu; subst hu; rfl
        case c3 => unfold maxLen; omega
        case c4 => omega
        case c5 => simp; omega
        · intro v' w1 hown' hgrow _
          have R := grow_step hbel (by simp) hown hgrow
          rw [HD.out.1, ← row_succ] at hown'
          clear hgrow hown h0 h1 h2 h3 HD
          go_wp2
          go_roundw
          case rel => exact ⟨14, by omega, by go_num, hown', R⟩
          case measure => simp [intOf] <;> omega
      rcases h with rfl | h
      · go_wp2_with (at_builtin; refine wpList_append_own _ rfl _ _ 44 rfl (w.heap.size + 1) 22 i0 (.int .u64 0) 1 8 Tryd.underlying44 hi hz0 hz1 hz2 rfl (by decide) _ _ _ rfl (hown.alloc _) ⟨wr.heap.size, 0, none⟩ 1 1 [.int .u64 (d : Nat)] rfl rfl ?c1 ?c2 ?c3 ?c4 ?c5 ?_)
        case c1 =>
          intro j u hj
          match j, hj with
          | 0, hj =>
            simp only [List.getElem?_cons_zero, Option.some.injEq] at hj
            subst hj
            have e := HD.out.2
            simp only [Nat.reduceDiv, Nat.reduceMod, Nat.reduceMul, Nat.reducePow] at e
            rw [e]
            simp [Addr.add]
        case c2 => intro u hu; simp at hu; subst hu; rfl
        case c3 => unfold maxLen; omega
        case c4 => omega
        case c5 => simp; omega
        · intro v' w1 hown' hgrow _
          have R := grow_step hbel (by simp) hown hgrow
          rw [HD.out.1, ← row_succ] at hown'
          clear hgrow hown h0 h1 h2 h3 HD
          go_wp2
          go_roundw
          case rel => exact ⟨15, by omega, by go_num, hown', R⟩
          case measure => simp [intOf] <;> omega
      subst h
      · go_wp2_with (at_builtin; refine wpList_append_own _ rfl _ _ 44 rfl (w.heap.size + 1) 22 i0 (.int .u64 0) 1 8 Tryd.underlying44 hi hz0 hz1 hz2 rfl (by decide) _ _ _ rfl (hown.alloc _) ⟨wr.heap.size, 0, none⟩ 1 1 [.int .u64 (d : Nat)] rfl rfl ?c1 ?c2 ?c3 ?c4 ?c5 ?_)
        case c1 =>
          intro j u hj
          match j, hj with
          | 0, hj =>
            simp only [List.getElem?_cons_zero, Option.some.injEq] at hj
            subst hj
            have e := HD.out.2
            simp only [Nat.reduceDiv, Nat.reduceMod, Nat.reduceMul, Nat.reducePow] at e
            rw [e]
            simp [Addr.add]
        case c2 => intro u hu; simp at hu; subst hu; rfl
        case c3 => unfold maxLen; omega
        case c4 => omega
        case c5 => simp; omega
        · intro v' w1 hown' hgrow _
          have R := grow_step hbel (by simp) hown hgrow
          rw [HD.out.1, ← row_succ] at hown'
          clear hgrow hown h0 h1 h2 h3 HD
          go_wp2
          go_roundw
          case rel => exact ⟨16, by omega, by go_num, hown', R⟩
          case measure => simp [intOf] <;> omega
    · have e : k = 16 := by omega
      subst e
      go_wp2
      go_ret
      exact ⟨_, rfl, own_base hown (Nat.le_succ _), ((Below.refl _ w).alloc (Nat.le_refl _) _).trans (hbel.mono (Nat.le_succ _))⟩

end Go.Proofs.YtmjdmhelmgcanaaDoor

/- r01.carry: the digits' sums, carried. -/
namespace Go.Proofs.YtmjdmhelmgcanaaDoor
open Go.RowKit

theorem hidden {p : Prop} (h : p) : Hid p := h

/-- one of them changed -/
def set1 (f : Nat → Nat) (j u : Nat) : Nat → Nat := fun i => if i = j then u else f i
theorem row_set (f : Nat → Nat) (n j u : Nat) : (row f n).set j (.int .u64 (u : Nat)) = row (set1 f j u) n := by
  apply List.ext_getElem?
  intro i
  rw [List.getElem?_set]
  by_cases hi : i < n
  · rw [row_get _ hi, row_length]
    by_cases hj : j = i
    · subst hj; rw [row_get _ hi]; simp [hi, set1]
    · have : ¬ i = j := fun e => hj e.symm
      simp [hj, set1, this, row_get _ hi]
  · have h1 : (row f n)[i]? = none := by rw [List.getElem?_eq_none]; rw [row_length]; omega
    have h2 : (row (set1 f j u) n)[i]? = none := by rw [List.getElem?_eq_none]; rw [row_length]; omega
    rw [h1, h2, row_length]; simp; omega
theorem set1_eq (f : Nat → Nat) (j u : Nat) : set1 f j u j = u := by simp [set1]
theorem set1_ne (f : Nat → Nat) {j u i : Nat} (h : i ≠ j) : set1 f j u i = f i := by simp [set1, h]

/-- a row's slice: where it lies -/
theorem own_form {w : World} {B e n : Nat} {v : Value} {xs : List Value} (h : w.ownsRow B e 1 v (n + 1) xs) : ∃ g cap, v = .slice (some ⟨g, 0, none⟩) (n + 1) cap ∧ B ≤ g ∧ g < w.heap.size ∧ n + 1 ≤ cap ∧ cap ≤ maxLen := by
  rcases h.2 with ⟨_, h0⟩ | ⟨g, cap, cur, e1, hb, hg, hc, hm, _⟩
  · cases h0
  · exact ⟨g, cap, e1, hb, (Array.getElem?_eq_some_iff.1 hg).1, hc, hm⟩

set_option maxHeartbeats 4000000 in
set_option maxRecDepth 1000000 in
theorem carry_calls (B g cap : Nat) (f : Nat → Nat) (hf : ∀ i, i < 16 → f i ≤ 131070) (w : World) (hown : w.ownsRow B 22 1 (.slice (some ⟨g, 0, none⟩) 16 cap) 16 (row f 16)) :
    Calls Tryd.prog 24 #[.slice (some ⟨g, 0, none⟩) 16 cap] w fun e w' => ∃ v h, e = .returned v ∧ w'.ownsRow B 22 1 v 17 (row h 17) ∧ (∀ i, i < 17 → h i < 65536) ∧ num h 17 = num f 16 ∧ Below B w w' := by
  obtain ⟨i0, hi, hz0, hz1, hz2⟩ := info_parts info26
  obtain ⟨_, _, e1, hBg, hgw, hcap, hmax⟩ := own_form hown
  simp only [Value.slice.injEq, Option.some.injEq, Addr.mk.injEq, and_true] at e1
  obtain ⟨rfl, -, rfl⟩ := e1
  have hmax' : cap ≤ 9223372036854775807 := Nat.le_trans hmax (by unfold maxLen; omega)
  go_enter Tryd.func24, Tryd.ntmps24
  go_wp2
  go_loopw [3, 4] (fun o i wr => ∃ (k c : Nat) (h : Nat → Nat), k ≤ 16 ∧ i = .int .i64 k ∧ o = .int .u64 c ∧ c ≤ 2 ∧ wr.ownsRow B 22 1 (.slice (some ⟨g, 0, none⟩) 16 cap) 16 (row h 16) ∧
      (∀ i, i < k → h i < 65536) ∧ (∀ i, k ≤ i → h i = f i) ∧ num h k + c * 65536 ^ k = num f k ∧ Below B w wr)
    (fun _ i _ => 16 - (intOf i).toNat)
  case atStart => exact ⟨0, 0, f, Nat.zero_le _, rfl, rfl, by omega, hown, by omega, fun _ _ => rfl, by simp [num], Below.refl _ _⟩
  case round =>
    obtain ⟨k, c, h, hk, rfl, rfl, hc, hr, hlo, hhi, hnum, hbel⟩ := hrel
    rcases Nat.lt_or_ge k 16 with hlt | hge
    · have hcell : wr.cell? ⟨g, k, none⟩ = some (.int .u64 (f k : Nat)) := by rw [hr.cellAt k (by omega), row_get _ hlt, hhi k (Nat.le_refl _)]
      have hfz := hr.frozenAt k
      have hfk := hf k hlt
      have HF := hidden hf
      have HL := hidden hlo
      have HH := hidden hhi
      clear hf hlo hhi
      go_wp2_with fail
      go_roundw
      case rel =>
        have R := (hr.stored k (.int .u64 (((c + f k) % 65536 : Nat) : Int))).1
        rw [row_set] at R
        have hl := num_congr (f := set1 h k ((c + f k) % 65536)) (g := h) (k := k) fun i hi => set1_ne h (by omega)
        refine ⟨k + 1, (c + f k) / 65536, set1 h k ((c + f k) % 65536), by omega, by go_num, by simp, by omega, by simpa using R, ?_, ?_, ?_, hbel.setCell hBg _⟩
        · intro i hi
          by_cases hik : i = k
          · subst hik; rw [set1_eq]; omega
          · rw [set1_ne h hik]; exact HL.out i (by omega)
        · intro i hi
          rw [set1_ne h (by omega)]; exact HH.out i (by omega)
        · rw [num, num, hl, set1_eq, ← hnum]
          have e := Nat.div_add_mod (c + f k) 65536
          have e2 : (65536 * ((c + f k) / 65536) + (c + f k) % 65536) * 65536 ^ k = (c + f k) * 65536 ^ k := by rw [e]
          rw [Nat.pow_succ]
          rw [Nat.add_mul, Nat.add_mul] at e2
          have e3 : (c + f k) / 65536 * (65536 ^ k * 65536) = 65536 * ((c + f k) / 65536) * 65536 ^ k := by ac_rfl
          rw [e3]
          omega
      case measure => simp [intOf]; omega
    · have e : k = 16 := by omega
      subst e
      go_wp2_with (at_builtin; refine wpList_append_own _ rfl _ _ 44 rfl B 22 i0 (.int .u64 0) 1 8 Tryd.underlying44 hi hz0 hz1 hz2 rfl (by decide) _ _ _ rfl (hr.alloc _) ⟨wr.heap.size, 0, none⟩ 1 1 [.int .u64 (c : Nat)] rfl rfl ?c1 ?c2 ?c3 ?c4 ?c5 ?_)
      case c1 =>
        intro j u hj
        match j, hj with
        | 0, hj => simp at hj; subst hj; simp [Addr.add]
      case c2 => intro u hu; simp at hu; subst hu; rfl
      case c3 => unfold maxLen; omega
      case c4 => omega
      case c5 => have := hbel.size; simp; omega
      · intro v' w1 hown' hgrow _
        have R : Below B w w1 := (hbel.alloc (by have := hbel.size; omega) _).grown hgrow (by have := hbel.size; simp; omega) (fun j hj => by simp [Value.ownBlock] at hj; omega)
        have hl := num_congr (f := set1 h 16 c) (g := h) (k := 16) fun i hi => set1_ne h (by omega)
        have hrow : row h 16 ++ [.int .u64 (c : Nat)] = row (set1 h 16 c) 17 := by
          rw [row_succ (set1 h 16 c) 16, set1_eq, row_congr (f := h) (g := set1 h 16 c) (n := 16) fun i hi => (set1_ne h (by omega)).symm]
        rw [hrow] at hown'
        clear hgrow hr
        go_wp2
        go_ret
        refine ⟨_, set1 h 16 c, rfl, hown', fun i hi => ?_, ?_, R⟩
        · by_cases hik : i = 16
          · subst hik; rw [set1_eq]; omega
          · rw [set1_ne h hik]; exact hlo i (by omega)
        · rw [num, hl, set1_eq]; exact hnum

end Go.Proofs.YtmjdmhelmgcanaaDoor

/- r01.Of: the number of digits. -/
namespace Go.Proofs.YtmjdmhelmgcanaaDoor
open Go.RowKit

theorem wrap_nat {n : Nat} (h : n < 18446744073709551616) : IntKind.u64.wrap (n : Int) = n := by
  have e : IntKind.u64.wrap (n : Int) = (n : Int) % 18446744073709551616 := rfl
  rw [e]; omega

set_option maxHeartbeats 4000000 in
set_option maxRecDepth 1000000 in
theorem of_calls (B g cap n : Nat) (f : Nat → Nat) (hn : n = 16 ∨ n = 17) (hf : ∀ i, i < n → f i < 65536) (w : World) (hown : w.ownsRow B 22 1 (.slice (some ⟨g, 0, none⟩) n cap) n (row f n)) :
    Calls Tryd.prog 22 #[.slice (some ⟨g, 0, none⟩) n cap] w fun e w' => e = .returned (if n = 16 ∨ f 16 = 0 then .tuple #[V (num f 16), .bool true] else .tuple #[V 0, .bool false]) ∧ Below w.heap.size w w' := by
  have hown0 : w.ownsRow B 22 1 (.slice (some ⟨g, 0, none⟩) ((n - 1) + 1) cap) ((n - 1) + 1) (row f n) := by rw [show n - 1 + 1 = n by omega]; exact hown
  obtain ⟨_, _, e1, hBg, hgw, hcap, hmax⟩ := own_form hown0
  simp only [Value.slice.injEq, Option.some.injEq, Addr.mk.injEq, and_true] at e1
  obtain ⟨rfl, -, rfl⟩ := e1
  have hmax' : cap ≤ 9223372036854775807 := Nat.le_trans hmax (by unfold maxLen; omega)
  have hcl : ∀ k, k < n → w.cell? ⟨g, k, none⟩ = some (.int .u64 (f k : Nat)) := fun k hk => by rw [hown.cellAt k (by omega), row_get _ hk]
  have hnum := @num_lt f
  clear hown0 hown
  go_enter Tryd.func22, Tryd.ntmps22
  go_wp2
  go_loopw [5] (fun i wr => ∃ (k c0 c1 c2 c3 : Nat), k ≤ n ∧ i = .int .i64 k ∧ wr.heap[w.heap.size + 1]? = some (.cells #[.int .u64 c0, .int .u64 c1, .int .u64 c2, .int .u64 c3] 24 (0, 0)) ∧
      c0 < 18446744073709551616 ∧ c1 < 18446744073709551616 ∧ c2 < 18446744073709551616 ∧ c3 < 18446744073709551616 ∧ mk4 c0 c1 c2 c3 = num f (min k 16) ∧ (16 < k → f 16 = 0) ∧
      Below (w.heap.size + 1) (w.alloc (.cells #[.int .u64 0, .int .u64 0, .int .u64 0, .int .u64 0] 24)) wr)
    (fun i _ => 17 - (intOf i).toNat)
  case atStart =>
    refine ⟨0, 0, 0, 0, 0, Nat.zero_le _, rfl, ?_, by omega, by omega, by omega, by omega, rfl, by omega, ?_⟩
    · have h := heap_alloc_new (w.alloc (.cells #[.int .u64 0, .int .u64 0, .int .u64 0, .int .u64 0] 24)) (.cells #[.int .u64 0, .int .u64 0, .int .u64 0, .int .u64 0] 24)
      rw [World.size_alloc] at h
      exact h
    · exact (Below.refl _ _).alloc (by simp) _
  case round =>
    obtain ⟨k, c0, c1, c2, c3, hk, rfl, hh, hc0, hc1, hc2, hc3, hm, hq, hbel⟩ := hrel
    have h0 : wr.cell? ⟨w.heap.size + 1, 0, none⟩ = some (.int .u64 c0) := by rw [cell_of_row wr _ 0 _ 24 (0, 0) hh]; rfl
    have h1 : wr.cell? ⟨w.heap.size + 1, 1, none⟩ = some (.int .u64 c1) := by rw [cell_of_row wr _ 1 _ 24 (0, 0) hh]; rfl
    have h2 : wr.cell? ⟨w.heap.size + 1, 2, none⟩ = some (.int .u64 c2) := by rw [cell_of_row wr _ 2 _ 24 (0, 0) hh]; rfl
    have h3 : wr.cell? ⟨w.heap.size + 1, 3, none⟩ = some (.int .u64 c3) := by rw [cell_of_row wr _ 3 _ 24 (0, 0) hh]; rfl
    have hz : ∀ j, wr.frozen? ⟨w.heap.size + 1, j, none⟩ = false := fun j => frozen_of_row wr _ j _ 24 hh
    rcases Nat.lt_or_ge k 16 with hlt | hge
    · obtain ⟨d, hd⟩ : ∃ d, d = f k := ⟨_, rfl⟩
      have hg : wr.cell? ⟨g, k, none⟩ = some (.int .u64 (d : Nat)) := by rw [hbel.cell (by simp; omega), World.cell?_alloc_past _ _ _ hgw, hcl k (by omega), hd]
      have hdl : d < 65536 := by rw [hd]; exact hf k (by omega)
      have hkn : k < n := by omega
      have HM : Hid (mk4 c0 c1 c2 c3 = num f k ∧ mk4 c0 c1 c2 c3 < 65536 ^ k ∧ num f (k + 1) = mk4 c0 c1 c2 c3 + d * 65536 ^ k) := by
        rw [Nat.min_eq_left (Nat.le_of_lt hlt)] at hm
        exact ⟨hm, by rw [hm]; exact hnum fun i hi => hf i (by omega), by rw [num, hm, hd]⟩
      have h : k = 0 ∨ k = 1 ∨ k = 2 ∨ k = 3 ∨ k = 4 ∨ k = 5 ∨ k = 6 ∨ k = 7 ∨ k = 8 ∨ k = 9 ∨ k = 10 ∨ k = 11 ∨ k = 12 ∨ k = 13 ∨ k = 14 ∨ k = 15 := by omega
      have HN := hidden hn
      clear hm hf hcl hd hn hq
      rcases h with rfl | rfl | rfl | rfl | rfl | rfl | rfl | rfl | rfl | rfl | rfl | rfl | rfl | rfl | rfl | rfl
      · go_wp2
        go_region
        go_wp2
        go_roundw
        case rel =>
          obtain ⟨-, M1, M2⟩ := HM.out
          have hr := HN.out
          clear HM HN
          simp only [Nat.reduceAdd, Nat.reducePow, mk4] at M1 M2
          have e := wrap_nat (n := c0 + d) (by omega)
          simp only [Int.natCast_add] at e
          rw [e]
          refine ⟨1, c0 + d, c1, c2, c3, by omega, by go_num, ?_, by omega, by omega, by omega, by omega, ?_, by omega, (hbel.setCell (by simp) _).drew⟩
          · exact heap_setCell_same wr _ 0 _ 24 _ hh
          · simp only [Nat.reduceLeDiff, Nat.min_eq_left, M2, mk4]; omega
        case measure => simp [intOf]
      · go_wp2
        go_region
        go_wp2
        go_roundw
        case rel =>
          obtain ⟨-, M1, M2⟩ := HM.out
          have hr := HN.out
          clear HM HN
          simp only [Nat.reduceAdd, Nat.reducePow, mk4] at M1 M2
          have e := wrap_nat (n := c0 + d * 65536) (by omega)
          simp only [Int.natCast_add, Int.natCast_mul, Int.cast_ofNat_Int] at e
          rw [e]
          refine ⟨2, c0 + d * 65536, c1, c2, c3, by omega, by go_num, ?_, by omega, by omega, by omega, by omega, ?_, by omega, (hbel.setCell (by simp) _).drew⟩
          · exact heap_setCell_same wr _ 0 _ 24 _ hh
          · simp only [Nat.reduceLeDiff, Nat.min_eq_left, M2, mk4]; omega
        case measure => simp [intOf]
      · go_wp2
        go_region
        go_wp2
        go_roundw
        case rel =>
          obtain ⟨-, M1, M2⟩ := HM.out
          have hr := HN.out
          clear HM HN
          simp only [Nat.reduceAdd, Nat.reducePow, mk4] at M1 M2
          have e := wrap_nat (n := c0 + d * 4294967296) (by omega)
          simp only [Int.natCast_add, Int.natCast_mul, Int.cast_ofNat_Int] at e
          rw [e]
          refine ⟨3, c0 + d * 4294967296, c1, c2, c3, by omega, by go_num, ?_, by omega, by omega, by omega, by omega, ?_, by omega, (hbel.setCell (by simp) _).drew⟩
          · exact heap_setCell_same wr _ 0 _ 24 _ hh
          · simp only [Nat.reduceLeDiff, Nat.min_eq_left, M2, mk4]; omega
        case measure => simp [intOf]
      · go_wp2
        go_region
        go_wp2
        go_roundw
        case rel =>
          obtain ⟨-, M1, M2⟩ := HM.out
          have hr := HN.out
          clear HM HN
          simp only [Nat.reduceAdd, Nat.reducePow, mk4] at M1 M2
          have e := wrap_nat (n := c0 + d * 281474976710656) (by omega)
          simp only [Int.natCast_add, Int.natCast_mul, Int.cast_ofNat_Int] at e
          rw [e]
          refine ⟨4, c0 + d * 281474976710656, c1, c2, c3, by omega, by go_num, ?_, by omega, by omega, by omega, by omega, ?_, by omega, (hbel.setCell (by simp) _).drew⟩
          · exact heap_setCell_same wr _ 0 _ 24 _ hh
          · simp only [Nat.reduceLeDiff, Nat.min_eq_left, M2, mk4]; omega
        case measure => simp [intOf]
      · go_wp2
        go_region
        go_wp2
        go_roundw
        case rel =>
          obtain ⟨-, M1, M2⟩ := HM.out
          have hr := HN.out
          clear HM HN
          simp only [Nat.reduceAdd, Nat.reducePow, mk4] at M1 M2
          have e := wrap_nat (n := c1 + d) (by omega)
          simp only [Int.natCast_add] at e
          rw [e]
          refine ⟨5, c0, c1 + d, c2, c3, by omega, by go_num, ?_, by omega, by omega, by omega, by omega, ?_, by omega, (hbel.setCell (by simp) _).drew⟩
          · exact heap_setCell_same wr _ 1 _ 24 _ hh
          · simp only [Nat.reduceLeDiff, Nat.min_eq_left, M2, mk4]; omega
        case measure => simp [intOf]
      · go_wp2
        go_region
        go_wp2
        go_roundw
        case rel =>
          obtain ⟨-, M1, M2⟩ := HM.out
          have hr := HN.out
          clear HM HN
          simp only [Nat.reduceAdd, Nat.reducePow, mk4] at M1 M2
          have e := wrap_nat (n := c1 + d * 65536) (by omega)
          simp only [Int.natCast_add, Int.natCast_mul, Int.cast_ofNat_Int] at e
          rw [e]
          refine ⟨6, c0, c1 + d * 65536, c2, c3, by omega, by go_num, ?_, by omega, by omega, by omega, by omega, ?_, by omega, (hbel.setCell (by simp) _).drew⟩
          · exact heap_setCell_same wr _ 1 _ 24 _ hh
          · simp only [Nat.reduceLeDiff, Nat.min_eq_left, M2, mk4]; omega
        case measure => simp [intOf]
      · go_wp2
        go_region
        go_wp2
        go_roundw
        case rel =>
          obtain ⟨-, M1, M2⟩ := HM.out
          have hr := HN.out
          clear HM HN
          simp only [Nat.reduceAdd, Nat.reducePow, mk4] at M1 M2
          have e := wrap_nat (n := c1 + d * 4294967296) (by omega)
          simp only [Int.natCast_add, Int.natCast_mul, Int.cast_ofNat_Int] at e
          rw [e]
          refine ⟨7, c0, c1 + d * 4294967296, c2, c3, by omega, by go_num, ?_, by omega, by omega, by omega, by omega, ?_, by omega, (hbel.setCell (by simp) _).drew⟩
          · exact heap_setCell_same wr _ 1 _ 24 _ hh
          · simp only [Nat.reduceLeDiff, Nat.min_eq_left, M2, mk4]; omega
        case measure => simp [intOf]
      · go_wp2
        go_region
        go_wp2
        go_roundw
        case rel =>
          obtain ⟨-, M1, M2⟩ := HM.out
          have hr := HN.out
          clear HM HN
          simp only [Nat.reduceAdd, Nat.reducePow, mk4] at M1 M2
          have e := wrap_nat (n := c1 + d * 281474976710656) (by omega)
          simp only [Int.natCast_add, Int.natCast_mul, Int.cast_ofNat_Int] at e
          rw [e]
          refine ⟨8, c0, c1 + d * 281474976710656, c2, c3, by omega, by go_num, ?_, by omega, by omega, by omega, by omega, ?_, by omega, (hbel.setCell (by simp) _).drew⟩
          · exact heap_setCell_same wr _ 1 _ 24 _ hh
          · simp only [Nat.reduceLeDiff, Nat.min_eq_left, M2, mk4]; omega
        case measure => simp [intOf]
      · go_wp2
        go_region
        go_wp2
        go_roundw
        case rel =>
          obtain ⟨-, M1, M2⟩ := HM.out
          have hr := HN.out
          clear HM HN
          simp only [Nat.reduceAdd, Nat.reducePow, mk4] at M1 M2
          have e := wrap_nat (n := c2 + d) (by omega)
          simp only [Int.natCast_add] at e
          rw [e]
          refine ⟨9, c0, c1, c2 + d, c3, by omega, by go_num, ?_, by omega, by omega, by omega, by omega, ?_, by omega, (hbel.setCell (by simp) _).drew⟩
          · exact heap_setCell_same wr _ 2 _ 24 _ hh
          · simp only [Nat.reduceLeDiff, Nat.min_eq_left, M2, mk4]; omega
        case measure => simp [intOf]
      · go_wp2
        go_region
        go_wp2
        go_roundw
        case rel =>
          obtain ⟨-, M1, M2⟩ := HM.out
          have hr := HN.out
          clear HM HN
          simp only [Nat.reduceAdd, Nat.reducePow, mk4] at M1 M2
          have e := wrap_nat (n := c2 + d * 65536) (by omega)
          simp only [Int.natCast_add, Int.natCast_mul, Int.cast_ofNat_Int] at e
          rw [e]
          refine ⟨10, c0, c1, c2 + d * 65536, c3, by omega, by go_num, ?_, by omega, by omega, by omega, by omega, ?_, by omega, (hbel.setCell (by simp) _).drew⟩
          · exact heap_setCell_same wr _ 2 _ 24 _ hh
          · simp only [Nat.reduceLeDiff, Nat.min_eq_left, M2, mk4]; omega
        case measure => simp [intOf]
      · go_wp2
        go_region
        go_wp2
        go_roundw
        case rel =>
          obtain ⟨-, M1, M2⟩ := HM.out
          have hr := HN.out
          clear HM HN
          simp only [Nat.reduceAdd, Nat.reducePow, mk4] at M1 M2
          have e := wrap_nat (n := c2 + d * 4294967296) (by omega)
          simp only [Int.natCast_add, Int.natCast_mul, Int.cast_ofNat_Int] at e
          rw [e]
          refine ⟨11, c0, c1, c2 + d * 4294967296, c3, by omega, by go_num, ?_, by omega, by omega, by omega, by omega, ?_, by omega, (hbel.setCell (by simp) _).drew⟩
          · exact heap_setCell_same wr _ 2 _ 24 _ hh
          · simp only [Nat.reduceLeDiff, Nat.min_eq_left, M2, mk4]; omega
        case measure => simp [intOf]
      · go_wp2
        go_region
        go_wp2
        go_roundw
        case rel =>
          obtain ⟨-, M1, M2⟩ := HM.out
          have hr := HN.out
          clear HM HN
          simp only [Nat.reduceAdd, Nat.reducePow, mk4] at M1 M2
          have e := wrap_nat (n := c2 + d * 281474976710656) (by omega)
          simp only [Int.natCast_add, Int.natCast_mul, Int.cast_ofNat_Int] at e
          rw [e]
          refine ⟨12, c0, c1, c2 + d * 281474976710656, c3, by omega, by go_num, ?_, by omega, by omega, by omega, by omega, ?_, by omega, (hbel.setCell (by simp) _).drew⟩
          · exact heap_setCell_same wr _ 2 _ 24 _ hh
          · simp only [Nat.reduceLeDiff, Nat.min_eq_left, M2, mk4]; omega
        case measure => simp [intOf]
      · go_wp2
        go_region
        go_wp2
        go_roundw
        case rel =>
          obtain ⟨-, M1, M2⟩ := HM.out
          have hr := HN.out
          clear HM HN
          simp only [Nat.reduceAdd, Nat.reducePow, mk4] at M1 M2
          have e := wrap_nat (n := c3 + d) (by omega)
          simp only [Int.natCast_add] at e
          rw [e]
          refine ⟨13, c0, c1, c2, c3 + d, by omega, by go_num, ?_, by omega, by omega, by omega, by omega, ?_, by omega, (hbel.setCell (by simp) _).drew⟩
          · exact heap_setCell_same wr _ 3 _ 24 _ hh
          · simp only [Nat.reduceLeDiff, Nat.min_eq_left, M2, mk4]; omega
        case measure => simp [intOf]
      · go_wp2
        go_region
        go_wp2
        go_roundw
        case rel =>
          obtain ⟨-, M1, M2⟩ := HM.out
          have hr := HN.out
          clear HM HN
          simp only [Nat.reduceAdd, Nat.reducePow, mk4] at M1 M2
          have e := wrap_nat (n := c3 + d * 65536) (by omega)
          simp only [Int.natCast_add, Int.natCast_mul, Int.cast_ofNat_Int] at e
          rw [e]
          refine ⟨14, c0, c1, c2, c3 + d * 65536, by omega, by go_num, ?_, by omega, by omega, by omega, by omega, ?_, by omega, (hbel.setCell (by simp) _).drew⟩
          · exact heap_setCell_same wr _ 3 _ 24 _ hh
          · simp only [Nat.reduceLeDiff, Nat.min_eq_left, M2, mk4]; omega
        case measure => simp [intOf]
      · go_wp2
        go_region
        go_wp2
        go_roundw
        case rel =>
          obtain ⟨-, M1, M2⟩ := HM.out
          have hr := HN.out
          clear HM HN
          simp only [Nat.reduceAdd, Nat.reducePow, mk4] at M1 M2
          have e := wrap_nat (n := c3 + d * 4294967296) (by omega)
          simp only [Int.natCast_add, Int.natCast_mul, Int.cast_ofNat_Int] at e
          rw [e]
          refine ⟨15, c0, c1, c2, c3 + d * 4294967296, by omega, by go_num, ?_, by omega, by omega, by omega, by omega, ?_, by omega, (hbel.setCell (by simp) _).drew⟩
          · exact heap_setCell_same wr _ 3 _ 24 _ hh
          · simp only [Nat.reduceLeDiff, Nat.min_eq_left, M2, mk4]; omega
        case measure => simp [intOf]
      · go_wp2
        go_region
        go_wp2
        go_roundw
        case rel =>
          obtain ⟨-, M1, M2⟩ := HM.out
          have hr := HN.out
          clear HM HN
          simp only [Nat.reduceAdd, Nat.reducePow, mk4] at M1 M2
          have e := wrap_nat (n := c3 + d * 281474976710656) (by omega)
          simp only [Int.natCast_add, Int.natCast_mul, Int.cast_ofNat_Int] at e
          rw [e]
          refine ⟨16, c0, c1, c2, c3 + d * 281474976710656, by omega, by go_num, ?_, by omega, by omega, by omega, by omega, ?_, by omega, (hbel.setCell (by simp) _).drew⟩
          · exact heap_setCell_same wr _ 3 _ 24 _ hh
          · simp only [Nat.reduceLeDiff, Nat.min_eq_left, M2, mk4]; omega
        case measure => simp [intOf]
    · have hmin : min k 16 = 16 := by omega
      rw [hmin] at hm
      have hV : V (num f 16) = V4 c0 c1 c2 c3 := by rw [← hm]; exact V_mk4 hc0 hc1 hc2 hc3
      have hA : (w.alloc (.cells #[.int .u64 0, .int .u64 0, .int .u64 0, .int .u64 0] 24)).heap[w.heap.size]? = some (.cells #[.int .u64 0, .int .u64 0, .int .u64 0, .int .u64 0] 24 (0, 0)) := heap_alloc_new w _
      have hA' := (hbel.block w.heap.size (Nat.lt_succ_self _)).trans hA
      have a0 : wr.cell? ⟨w.heap.size, 0, none⟩ = some (.int .u64 0) := by rw [cell_of_row wr _ 0 _ 24 (0, 0) hA']; rfl
      have a1 : wr.cell? ⟨w.heap.size, 1, none⟩ = some (.int .u64 0) := by rw [cell_of_row wr _ 1 _ 24 (0, 0) hA']; rfl
      have a2 : wr.cell? ⟨w.heap.size, 2, none⟩ = some (.int .u64 0) := by rw [cell_of_row wr _ 2 _ 24 (0, 0) hA']; rfl
      have a3 : wr.cell? ⟨w.heap.size, 3, none⟩ = some (.int .u64 0) := by rw [cell_of_row wr _ 3 _ 24 (0, 0) hA']; rfl
      have az : ∀ j, wr.frozen? ⟨w.heap.size, j, none⟩ = false := fun j => frozen_of_row wr _ j _ 24 hA'
      have hB2 : Below w.heap.size w wr := ((Below.refl _ w).alloc (Nat.le_refl _) _).trans (hbel.mono (Nat.le_succ _))
      clear hA hA'
      rcases Nat.lt_or_ge k n with hkn | hkn
      · have hn17 : n = 17 := by omega
        have hk16 : k = 16 := by omega
        subst hn17 hk16
        have hg : wr.cell? ⟨g, 16, none⟩ = some (.int .u64 (f 16 : Nat)) := by rw [hbel.cell (by simp; omega), World.cell?_alloc_past _ _ _ hgw, hcl 16 (by omega)]
        have HM : Hid (mk4 c0 c1 c2 c3 = num f 16) := hm
        have HB := hidden hB2
        clear hm hf hcl hnum hB2
        by_cases hz0 : f 16 = 0
        · rw [hz0] at hg
          go_wp2
          go_roundw
          case rel => exact ⟨17, c0, c1, c2, c3, by omega, by go_num, hh, hc0, hc1, hc2, hc3, HM.out, fun _ => hz0, hbel⟩
          case measure => simp [intOf]
        · have hgt : (0 : Int) < (f 16 : Nat) := by omega
          have hV0 : V 0 = V4 0 0 0 0 := V_mk4 (a := 0) (b := 0) (c := 0) (d := 0) (by omega) (by omega) (by omega) (by omega)
          have HV := hidden hV0
          clear hV hV0
          go_wp2
          refine bodyPost_ret (v := .tuple #[.agg #[.int .u64 0, .int .u64 0, .int .u64 0, .int .u64 0], .bool false]) (by simp [results, Tryd.results22, go_sem, a0, a1, a2, a3]) rfl ⟨by rw [HV.out]; rfl, ?_⟩
          exact (((HB.out.setCell (by simp) _).setCell (by simp) _).setCell (by simp) _).setCell (by simp) _
      · have hcond : n = 16 ∨ f 16 = 0 := by
          rcases hn with h | h
          · exact .inl h
          · exact .inr (hq (by omega))
        have HV := hidden hV
        have HB := hidden hB2
        clear hV hB2 hq hm hf hcl hnum hn
        go_wp2
        refine bodyPost_ret (v := .tuple #[.agg #[.int .u64 c0, .int .u64 c1, .int .u64 c2, .int .u64 c3], .bool true]) (by simp [results, Tryd.results22, go_sem, a0, a1, a2, a3]) rfl ⟨by rw [HV.out]; rfl, ?_⟩
        exact (((HB.out.setCell (by simp) _).setCell (by simp) _).setCell (by simp) _).setCell (by simp) _

end Go.Proofs.YtmjdmhelmgcanaaDoor

/- r01.Zero, r01.Small, num.Of. -/
namespace Go.Proofs.YtmjdmhelmgcanaaDoor
open Go.RowKit

theorem nof_calls (n : Nat) (w : World) :
    Calls Tryd.prog 16 #[.int .u64 n] w fun e w' => e = .returned (V4 n 0 0 0) ∧ Below w.heap.size w w' := by
  unfold V4
  go_enter Tryd.func16, Tryd.ntmps16
  go_wp2
  refine bodyPost_ret (v := .agg #[.int .u64 n, .int .u64 0, .int .u64 0, .int .u64 0]) (by simp [results, Tryd.results16, go_sem]) rfl ⟨rfl, ?_⟩
  repeat (first | exact Below.refl _ _ | refine Below.setCell ?_ (by simp) _ | refine Below.alloc ?_ (by simp <;> omega) _ | refine Below.drew ?_)

set_option maxHeartbeats 1000000 in
theorem zero_calls (x : Nat) (hx : x < TOP) (w : World) :
    Calls Tryd.prog 23 #[V x] w fun e w' => e = .returned (.bool (decide (x = 0))) ∧ Below w.heap.size w w' := by
  obtain ⟨a0, a1, a2, a3, hv, ha0, ha1, ha2, ha3, hxe⟩ := V_open hx
  obtain ⟨b, hb⟩ : ∃ b, decide (x = 0) = b := ⟨_, rfl⟩
  rw [hb, hv]
  have HB : Hid ((decide (a0 = 0) && decide (a1 = 0) && decide (a2 = 0) && decide (a3 = 0)) = b) := by
    show (decide (a0 = 0) && decide (a1 = 0) && decide (a2 = 0) && decide (a3 = 0)) = b
    rw [← hb, hxe]
    unfold mk4
    simp only [← Bool.decide_and]
    exact decide_eq_decide.2 (by omega)
  unfold V4
  clear hb hv hxe ha0 ha1 ha2 ha3 hx
  have hz : ∀ a : Nat, a ≠ 0 → ((a : Nat) : Int) ≠ 0 := fun a h => by omega
  have hB : Below w.heap.size w (w.alloc (.cells #[.int .u64 a0, .int .u64 a1, .int .u64 a2, .int .u64 a3] 24)) := (Below.refl _ _).alloc (Nat.le_refl _) _
  by_cases h0 : a0 = 0
  · subst h0
    by_cases h1 : a1 = 0
    · subst h1
      by_cases h2 : a2 = 0
      · subst h2
        by_cases h3 : a3 = 0
        · subst h3
          go_enter Tryd.func23, Tryd.ntmps23
          go_wp2
          go_ret
          exact ⟨by rw [← HB.out]; rfl, hB⟩
        · have k3 := hz _ h3
          go_enter Tryd.func23, Tryd.ntmps23
          go_wp2
          go_ret
          exact ⟨by rw [← HB.out]; simp [h3], hB⟩
      · have k2 := hz _ h2
        go_enter Tryd.func23, Tryd.ntmps23
        go_wp2
        go_ret
        exact ⟨by rw [← HB.out]; simp [h2], hB⟩
    · have k1 := hz _ h1
      go_enter Tryd.func23, Tryd.ntmps23
      go_wp2
      go_ret
      exact ⟨by rw [← HB.out]; simp [h1], hB⟩
  · have k0 := hz _ h0
    go_enter Tryd.func23, Tryd.ntmps23
    go_wp2
    go_ret
    exact ⟨by rw [← HB.out]; simp [h0], hB⟩

theorem V_small {n : Nat} (h : n < 18446744073709551616) : V n = V4 n 0 0 0 := by
  have e : mk4 n 0 0 0 = n := by unfold mk4; omega
  have := V_mk4 (a := n) (b := 0) (c := 0) (d := 0) h (by omega) (by omega) (by omega)
  rw [e] at this
  exact this

end Go.Proofs.YtmjdmhelmgcanaaDoor

/- The product of two words. -/
namespace Go.Proofs.YtmjdmhelmgcanaaDoor
open Go.RowKit Go.Shelf

def renMul : Ren := { f := fun _ => 46, t := fun n => if n = 46 then 54 else 22, g := fun n => n }
theorem laysMul : Lays.n264 Tryd.prog renMul where
  mixed := by kernel_rfl
  f264 := by kernel_rfl
  t46 := Tryd.underlying54
  a46 := Tryd.isAgg54
  z46 := Tryd.sizeOf54
  v46 := Tryd.zeroValue54
  t53 := Tryd.underlying22
  a53 := Tryd.isAgg22
  z53 := Tryd.sizeOf22
  v53 := Tryd.zeroValue22

theorem mul64_calls (x y : Nat) (hx : x < 18446744073709551616) (hy : y < 18446744073709551616) (w : World) :
    Calls Tryd.prog 46 #[.int .u64 x, .int .u64 y] w fun e w' => e = .returned (.tuple #[.int .u64 ((x * y / 18446744073709551616 : Nat) : Int), .int .u64 ((x * y % 18446744073709551616 : Nat) : Int)]) ∧ w' = w :=
  Any.bits_Mul64 laysMul x y hx hy w

end Go.Proofs.YtmjdmhelmgcanaaDoor

/- num.times: the whole product, part by part. -/
namespace Go.Proofs.YtmjdmhelmgcanaaDoor
open Go.RowKit

/-- the number that parts of 64 bits are -/
def lim (f : Nat → Nat) : Nat → Nat
  | 0 => 0
  | k + 1 => lim f k + f k * 18446744073709551616 ^ k

theorem lim_congr {f g : Nat → Nat} {k : Nat} (h : ∀ i, i < k → f i = g i) : lim f k = lim g k := by
  induction k with
  | zero => rfl
  | succ k ih => rw [lim, lim, ih fun i hi => h i (by omega), h k (by omega)]
theorem lim_lt {f : Nat → Nat} {k : Nat} (h : ∀ i, i < k → f i < 18446744073709551616) : lim f k < 18446744073709551616 ^ k := by
  induction k with
  | zero => simp [lim]
  | succ k ih =>
    have h1 := ih fun i hi => h i (by omega)
    have h2 : f k * 18446744073709551616 ^ k ≤ 18446744073709551615 * 18446744073709551616 ^ k := Nat.mul_le_mul_right _ (by have := h k (by omega); omega)
    rw [lim, Nat.pow_succ]; omega
theorem lim_lm (x k : Nat) : lim (lm x) k = x % 18446744073709551616 ^ k := by
  induction k with
  | zero => simp [lim, Nat.mod_one]
  | succ k ih => rw [lim, ih, lm, Nat.pow_succ, Nat.mod_mul, Nat.mul_comm (x / 18446744073709551616 ^ k % 18446744073709551616)]
/-- the parts of the number that parts are -/
theorem lm_lim {f : Nat → Nat} {k i : Nat} (h : ∀ i, i < k → f i < 18446744073709551616) (hi : i < k) : lm (lim f k) i = f i := by
  induction k with
  | zero => omega
  | succ k ih =>
    have hlt := lim_lt (k := k) fun j hj => h j (by omega)
    have hp : 0 < 18446744073709551616 ^ k := Nat.pow_pos (by omega)
    rcases Nat.lt_or_eq_of_le (Nat.le_of_lt_succ hi) with h1 | h1
    · rw [← ih (fun j hj => h j (by omega)) h1, lim]
      unfold lm
      obtain ⟨d, hd⟩ : ∃ d, k = i + 1 + d := ⟨k - (i + 1), by omega⟩
      have e : f k * 18446744073709551616 ^ k = 18446744073709551616 ^ i * (18446744073709551616 * (f k * 18446744073709551616 ^ d)) := by
        rw [hd, Nat.pow_add, Nat.pow_add, Nat.pow_one]; ac_rfl
      rw [e, Nat.add_mul_div_left _ _ (Nat.pow_pos (by omega)), Nat.add_mul_mod_self_left]
    · subst h1
      rw [lim]
      unfold lm
      rw [Nat.add_mul_div_right _ _ hp, Nat.div_eq_of_lt hlt, Nat.zero_add, Nat.mod_eq_of_lt (h i (by omega))]

theorem lim_set (f : Nat → Nat) {k j u : Nat} (hj : j < k) : lim (set1 f j u) k + f j * 18446744073709551616 ^ j = lim f k + u * 18446744073709551616 ^ j := by
  induction k with
  | zero => omega
  | succ k ih =>
    rw [lim, lim]
    rcases Nat.lt_or_eq_of_le (Nat.le_of_lt_succ hj) with h1 | h1
    · rw [set1_ne f (by omega : k ≠ j)]
      have := ih h1
      omega
    · subst h1
      rw [set1_eq, lim_congr (f := set1 f j u) (g := f) fun i hi => set1_ne f (by omega)]
      omega

/-- one product -/
theorem mul64_ex {x y : Nat} (hx : x < 18446744073709551616) (hy : y < 18446744073709551616) :
    ∃ hi lo : Nat, (∀ w, Calls Tryd.prog 46 #[.int .u64 x, .int .u64 y] w fun e w' => e = .returned (.tuple #[.int .u64 hi, .int .u64 lo]) ∧ w' = w) ∧ lo < 18446744073709551616 ∧ x * y = lo + 18446744073709551616 * hi :=
  ⟨_, _, mul64_calls x y hx hy, Nat.mod_lt _ (by omega), by omega⟩

/-- one step: a product, what is there, what is carried -/
theorem step64 {x y p c : Nat} (hx : x < 18446744073709551616) (hy : y < 18446744073709551616) (hp : p < 18446744073709551616) (hc : c < 18446744073709551616) :
    ∃ hi lo s0 c0 s1 c1 : Nat, (∀ w, Calls Tryd.prog 46 #[.int .u64 x, .int .u64 y] w fun e w' => e = .returned (.tuple #[.int .u64 hi, .int .u64 lo]) ∧ w' = w) ∧
      (∀ w, (callFunc 37 #[.int .u64 lo, .int .u64 p, .int .u64 0]).run Tryd.prog w = .ok (.value (.tuple #[.int .u64 s0, .int .u64 c0])) w) ∧
      (∀ w, (callFunc 37 #[.int .u64 s0, .int .u64 c, .int .u64 0]).run Tryd.prog w = .ok (.value (.tuple #[.int .u64 s1, .int .u64 c1])) w) ∧
      hi + c0 + c1 < 18446744073709551616 ∧ s1 < 18446744073709551616 ∧ x * y + p + c = s1 + 18446744073709551616 * (hi + c0 + c1) := by
  obtain ⟨hi, lo, h1, hlo, e1⟩ := mul64_ex hx hy
  obtain ⟨s0, c0, h2, hs0, hc0, e2⟩ := add64_ex hlo hp (Nat.zero_le 1)
  obtain ⟨s1, c1, h3, hs1, hc1, e3⟩ := add64_ex hs0 hc (Nat.zero_le 1)
  have hxy : x * y ≤ 18446744073709551615 * 18446744073709551615 := Nat.mul_le_mul (by omega) (by omega)
  refine ⟨hi, lo, s0, c0, s1, c1, h1, h2, h3, ?_, hs1, ?_⟩
  · omega
  · omega

end Go.Proofs.YtmjdmhelmgcanaaDoor

/- num.times: the walk. -/
namespace Go.Proofs.YtmjdmhelmgcanaaDoor
open Go.RowKit

theorem cells4 {wr : World} {b : Nat} {c0 c1 c2 c3 : Value} (h : wr.heap[b]? = some (.cells #[c0, c1, c2, c3] 24 (0, 0))) :
    wr.cell? ⟨b, 0, none⟩ = some c0 ∧ wr.cell? ⟨b, 1, none⟩ = some c1 ∧ wr.cell? ⟨b, 2, none⟩ = some c2 ∧ wr.cell? ⟨b, 3, none⟩ = some c3 ∧ ∀ j, wr.frozen? ⟨b, j, none⟩ = false :=
  ⟨by rw [cell_of_row wr _ 0 _ 24 (0, 0) h]; rfl, by rw [cell_of_row wr _ 1 _ 24 (0, 0) h]; rfl, by rw [cell_of_row wr _ 2 _ 24 (0, 0) h]; rfl, by rw [cell_of_row wr _ 3 _ 24 (0, 0) h]; rfl, fun j => frozen_of_row wr _ j _ 24 h⟩

theorem drew_size (w : World) : w.drew.heap.size = w.heap.size := rfl

/-- three new blocks -/
theorem three (w : World) (p q r : Array Value) (t1 t2 t3 : TypeId) :
    (((w.alloc (.cells p t1)).alloc (.cells q t2)).alloc (.cells r t3)).heap[w.heap.size]? = some (.cells p t1 (0, 0)) ∧
    (((w.alloc (.cells p t1)).alloc (.cells q t2)).alloc (.cells r t3)).heap[w.heap.size + 1]? = some (.cells q t2 (0, 0)) ∧
    (((w.alloc (.cells p t1)).alloc (.cells q t2)).alloc (.cells r t3)).heap[w.heap.size + 1 + 1]? = some (.cells r t3 (0, 0)) := by
  have h1 := heap_alloc_new w (.cells p t1)
  have h2 := heap_alloc_new (w.alloc (.cells p t1)) (.cells q t2)
  have h3 := heap_alloc_new ((w.alloc (.cells p t1)).alloc (.cells q t2)) (.cells r t3)
  simp only [World.size_alloc] at h2 h3
  refine ⟨?_, ?_, h3⟩
  · rw [Below.heap_alloc _ _ _ (by simp; omega), Below.heap_alloc _ _ _ (by simp)]; exact h1
  · rw [Below.heap_alloc _ _ _ (by simp)]; exact h2

/-- a product's value -/
def PV (z : Nat) : Value := .agg (limbs z 8).toArray

/-- eight words in a block -/
def W8 (p : Nat → Nat) : Array Value := #[.int .u64 (p 0 : Nat), .int .u64 (p 1 : Nat), .int .u64 (p 2 : Nat), .int .u64 (p 3 : Nat), .int .u64 (p 4 : Nat), .int .u64 (p 5 : Nat), .int .u64 (p 6 : Nat), .int .u64 (p 7 : Nat)]

theorem W8_get (p : Nat → Nat) {j : Nat} (h : j < 8) : (W8 p)[j]? = some (.int .u64 (p j : Nat)) := by
  have h : j = 0 ∨ j = 1 ∨ j = 2 ∨ j = 3 ∨ j = 4 ∨ j = 5 ∨ j = 6 ∨ j = 7 := by omega
  rcases h with rfl | rfl | rfl | rfl | rfl | rfl | rfl | rfl <;> rfl
theorem W8_set (p : Nat → Nat) {j : Nat} (u : Nat) (h : j < 8) : (W8 p).setIfInBounds j (.int .u64 (u : Nat)) = W8 (set1 p j u) := by
  have h : j = 0 ∨ j = 1 ∨ j = 2 ∨ j = 3 ∨ j = 4 ∨ j = 5 ∨ j = 6 ∨ j = 7 := by omega
  rcases h with rfl | rfl | rfl | rfl | rfl | rfl | rfl | rfl <;> rfl

theorem cells8 {wr : World} {b : Nat} {c0 c1 c2 c3 c4 c5 c6 c7 : Value} (h : wr.heap[b]? = some (.cells #[c0, c1, c2, c3, c4, c5, c6, c7] 70 (0, 0))) :
    wr.cell? ⟨b, 0, none⟩ = some c0 ∧ wr.cell? ⟨b, 1, none⟩ = some c1 ∧ wr.cell? ⟨b, 2, none⟩ = some c2 ∧ wr.cell? ⟨b, 3, none⟩ = some c3 ∧ wr.cell? ⟨b, 4, none⟩ = some c4 ∧ wr.cell? ⟨b, 5, none⟩ = some c5 ∧
    wr.cell? ⟨b, 6, none⟩ = some c6 ∧ wr.cell? ⟨b, 7, none⟩ = some c7 ∧ ∀ j, wr.frozen? ⟨b, j, none⟩ = false :=
  ⟨by rw [cell_of_row wr _ 0 _ 70 (0, 0) h]; rfl, by rw [cell_of_row wr _ 1 _ 70 (0, 0) h]; rfl, by rw [cell_of_row wr _ 2 _ 70 (0, 0) h]; rfl, by rw [cell_of_row wr _ 3 _ 70 (0, 0) h]; rfl,
    by rw [cell_of_row wr _ 4 _ 70 (0, 0) h]; rfl, by rw [cell_of_row wr _ 5 _ 70 (0, 0) h]; rfl, by rw [cell_of_row wr _ 6 _ 70 (0, 0) h]; rfl, by rw [cell_of_row wr _ 7 _ 70 (0, 0) h]; rfl, fun j => frozen_of_row wr _ j _ 70 h⟩
theorem PV_lim {p : Nat → Nat} (h : ∀ j, j < 8 → p j < 18446744073709551616) : PV (lim p 8) = .agg (W8 p) := by
  have e : ∀ i, i < 8 → lm (lim p 8) i = p i := fun i hi => lm_lim h hi
  simp [PV, limbs, W8, e]

/-- four new blocks -/
theorem four (w : World) (p q r s : Array Value) (t1 t2 t3 t4 : TypeId) :
    ((((w.alloc (.cells p t1)).alloc (.cells q t2)).alloc (.cells r t3)).alloc (.cells s t4)).heap[w.heap.size + 1 + 1 + 1]? = some (.cells s t4 (0, 0)) := by
  have h := heap_alloc_new (((w.alloc (.cells p t1)).alloc (.cells q t2)).alloc (.cells r t3)) (.cells s t4)
  simp only [World.size_alloc] at h
  exact h

theorem inner_step {p : Nat → Nat} {q j a b y c s d X : Nat} (hj : q + j < 8) (hb : lm y j = b) (hs : a * b + p (q + j) + c = s + 18446744073709551616 * d)
    (h : lim p 8 + c * 18446744073709551616 ^ (q + j) = X + a * (y % 18446744073709551616 ^ j) * 18446744073709551616 ^ q) :
    lim (set1 p (q + j) s) 8 + d * 18446744073709551616 ^ (q + (j + 1)) = X + a * (y % 18446744073709551616 ^ (j + 1)) * 18446744073709551616 ^ q := by
  have L := lim_set p (u := s) hj
  have e : y % 18446744073709551616 ^ (j + 1) = y % 18446744073709551616 ^ j + 18446744073709551616 ^ j * b := by rw [Nat.pow_succ, Nat.mod_mul, ← hb]; rfl
  obtain ⟨P, hP⟩ : ∃ P, P = 18446744073709551616 ^ (q + j) := ⟨_, rfl⟩
  have e1 : a * (y % 18446744073709551616 ^ j + 18446744073709551616 ^ j * b) * 18446744073709551616 ^ q = a * (y % 18446744073709551616 ^ j) * 18446744073709551616 ^ q + a * b * P := by
    rw [hP, Nat.pow_add, Nat.mul_add, Nat.add_mul]; congr 1; ac_rfl
  have e2 : d * 18446744073709551616 ^ (q + (j + 1)) = 18446744073709551616 * d * P := by
    rw [hP, ← Nat.add_assoc, Nat.pow_succ]; ac_rfl
  have e3 : (a * b + p (q + j) + c) * P = (s + 18446744073709551616 * d) * P := by rw [hs]
  rw [Nat.add_mul, Nat.add_mul, Nat.add_mul] at e3
  rw [e, e1, e2]
  rw [← hP] at h L
  omega
theorem outer_step {p : Nat → Nat} {q a x y c : Nat} (hq : q + 4 < 8) (ha : lm x q = a) (hy : y < TOP) (hz : p (q + 4) = 0)
    (h : lim p 8 + c * 18446744073709551616 ^ (q + 4) = x % 18446744073709551616 ^ q * y + a * (y % 18446744073709551616 ^ 4) * 18446744073709551616 ^ q) :
    lim (set1 p (q + 4) c) 8 = x % 18446744073709551616 ^ (q + 1) * y := by
  have L := lim_set p (u := c) hq
  have e : x % 18446744073709551616 ^ (q + 1) = x % 18446744073709551616 ^ q + 18446744073709551616 ^ q * a := by rw [Nat.pow_succ, Nat.mod_mul, ← ha]; rfl
  have ey : y % 18446744073709551616 ^ 4 = y := Nat.mod_eq_of_lt hy
  rw [ey] at h
  rw [hz, Nat.zero_mul, Nat.add_zero] at L
  rw [L, h, e, Nat.add_mul]
  congr 1
  ac_rfl

theorem idx28_0 (c0 c1 c2 c3 : Value) (w : World) : (Instr.index 24 (.agg #[c0, c1, c2, c3]) (.int .i64 0)).run Tryd.prog w = .ok c0 w := by kernel_rfl
theorem idx28_1 (c0 c1 c2 c3 : Value) (w : World) : (Instr.index 24 (.agg #[c0, c1, c2, c3]) (.int .i64 1)).run Tryd.prog w = .ok c1 w := by kernel_rfl
theorem idx28_2 (c0 c1 c2 c3 : Value) (w : World) : (Instr.index 24 (.agg #[c0, c1, c2, c3]) (.int .i64 2)).run Tryd.prog w = .ok c2 w := by kernel_rfl
theorem idx28_3 (c0 c1 c2 c3 : Value) (w : World) : (Instr.index 24 (.agg #[c0, c1, c2, c3]) (.int .i64 3)).run Tryd.prog w = .ok c3 w := by kernel_rfl

set_option maxHeartbeats 4000000 in
set_option maxRecDepth 1000000 in
theorem times_calls (x y : Nat) (hx : x < TOP) (hy : y < TOP) (w : World) :
    Calls Tryd.prog 35 #[V x, V y] w fun e w' => e = .returned (PV (x * y)) ∧ Below w.heap.size w w' := by
  obtain ⟨r, hr⟩ : ∃ r, PV (x * y) = r := ⟨_, rfl⟩
  rw [hr]
  obtain ⟨a0, ha0⟩ : ∃ a, lm x 0 = a := ⟨_, rfl⟩
  obtain ⟨a1, ha1⟩ : ∃ a, lm x 1 = a := ⟨_, rfl⟩
  obtain ⟨a2, ha2⟩ : ∃ a, lm x 2 = a := ⟨_, rfl⟩
  obtain ⟨a3, ha3⟩ : ∃ a, lm x 3 = a := ⟨_, rfl⟩
  obtain ⟨b0, hb0⟩ : ∃ a, lm y 0 = a := ⟨_, rfl⟩
  obtain ⟨b1, hb1⟩ : ∃ a, lm y 1 = a := ⟨_, rfl⟩
  obtain ⟨b2, hb2⟩ : ∃ a, lm y 2 = a := ⟨_, rfl⟩
  obtain ⟨b3, hb3⟩ : ∃ a, lm y 3 = a := ⟨_, rfl⟩
  unfold V V4
  rw [ha0, ha1, ha2, ha3, hb0, hb1, hb2, hb3]
  have HR := hidden (p := _ ∧ _ ∧ _) ⟨hr, hx, hy⟩
  have HA := hidden (p := _ ∧ _ ∧ _ ∧ _) ⟨ha0, ha1, ha2, ha3⟩
  have HB := hidden (p := _ ∧ _ ∧ _ ∧ _) ⟨hb0, hb1, hb2, hb3⟩
  have i0 := idx28_0 (.int .u64 a0) (.int .u64 a1) (.int .u64 a2) (.int .u64 a3)
  have i1 := idx28_1 (.int .u64 a0) (.int .u64 a1) (.int .u64 a2) (.int .u64 a3)
  have i2 := idx28_2 (.int .u64 a0) (.int .u64 a1) (.int .u64 a2) (.int .u64 a3)
  have i3 := idx28_3 (.int .u64 a0) (.int .u64 a1) (.int .u64 a2) (.int .u64 a3)
  have j0 := idx28_0 (.int .u64 b0) (.int .u64 b1) (.int .u64 b2) (.int .u64 b3)
  have j1 := idx28_1 (.int .u64 b0) (.int .u64 b1) (.int .u64 b2) (.int .u64 b3)
  have j2 := idx28_2 (.int .u64 b0) (.int .u64 b1) (.int .u64 b2) (.int .u64 b3)
  have j3 := idx28_3 (.int .u64 b0) (.int .u64 b1) (.int .u64 b2) (.int .u64 b3)
  clear hr hx hy ha0 ha1 ha2 ha3 hb0 hb1 hb2 hb3
  go_enter Tryd.func35, Tryd.ntmps35
  go_wp2_with fail
  go_loopw [15] (fun i wr => ∃ (k : Nat) (p : Nat → Nat), k ≤ 4 ∧ i = .int .i64 k ∧ wr.heap[w.heap.size + 1 + 1 + 1]? = some (.cells (W8 p) 70 (0, 0)) ∧
      (∀ j, j < 8 → p j < 18446744073709551616) ∧ (∀ j, k + 4 ≤ j → p j = 0) ∧ lim p 8 = x % 18446744073709551616 ^ k * y ∧
      Below (w.heap.size + 1 + 1 + 1) (((w.alloc (.cells #[.int .u64 a0, .int .u64 a1, .int .u64 a2, .int .u64 a3] 24)).alloc (.cells #[.int .u64 b0, .int .u64 b1, .int .u64 b2, .int .u64 b3] 24)).alloc (.cells #[.int .u64 0, .int .u64 0, .int .u64 0, .int .u64 0, .int .u64 0, .int .u64 0, .int .u64 0, .int .u64 0] 70)) wr)
    (fun i _ => 4 - (intOf i).toNat)
  case atStart =>
    exact ⟨0, fun _ => 0, by omega, rfl, four _ _ _ _ _ _ _ _ _, fun _ _ => Nat.two_pow_pos 64, fun _ _ => rfl, by simp [lim, Nat.mod_one], (Below.refl _ _).alloc (by simp) _⟩
  case round =>
    obtain ⟨k, p, hk, rfl, hp, hlt, hzero, hsum, hbel⟩ := hrel
    have hsz := hbel.size
    simp only [World.size_alloc] at hsz
    have h : k = 0 ∨ k = 1 ∨ k = 2 ∨ k = 3 ∨ k = 4 := by omega
    have HP := hidden (p := _ ∧ _ ∧ _) ⟨hlt, hzero, hsum⟩
    obtain ⟨q0, q1, q2, q3, -⟩ := cells4 ((hbel.block (w.heap.size + 1) (by omega)).trans (three _ _ _ _ _ _ _).2.1)
    clear hlt hzero hsum hk
    rcases h with rfl | rfl | rfl | rfl | rfl
    · go_wp2
      go_loopw [20, 8] (fun i o wr => ∃ (j c : Nat) (u : Nat → Nat), j ≤ 4 ∧ i = .int .i64 j ∧ o = .int .u64 c ∧ c < 18446744073709551616 ∧ wr.heap[w.heap.size + 1 + 1 + 1]? = some (.cells (W8 u) 70 (0, 0)) ∧
          (∀ j, j < 8 → u j < 18446744073709551616) ∧ (∀ j, 4 ≤ j → u j = 0) ∧ lim u 8 + c * 18446744073709551616 ^ (0 + j) = x % 18446744073709551616 ^ 0 * y + a0 * (y % 18446744073709551616 ^ j) * 18446744073709551616 ^ 0 ∧
          Below (w.heap.size + 1 + 1 + 1) (((w.alloc (.cells #[.int .u64 a0, .int .u64 a1, .int .u64 a2, .int .u64 a3] 24)).alloc (.cells #[.int .u64 b0, .int .u64 b1, .int .u64 b2, .int .u64 b3] 24)).alloc (.cells #[.int .u64 0, .int .u64 0, .int .u64 0, .int .u64 0, .int .u64 0, .int .u64 0, .int .u64 0, .int .u64 0] 70)) wr)
        (fun i _ _ => 4 - (intOf i).toNat)
      case atStart => exact ⟨0, 0, p, by omega, rfl, rfl, by omega, hp, HP.out.1, HP.out.2.1, by rw [HP.out.2.2]; simp [Nat.mod_one], hbel⟩
      case round =>
        obtain ⟨j, c, u, hj, rfl, rfl, hc, hu, hlt, hzero, hsum, hbi⟩ := hrel
        clear hp hbel HP q0 q1 q2 q3 hsz
        have hz : ∀ j, wr.frozen? ⟨w.heap.size + 1 + 1 + 1, j, none⟩ = false := fun j => frozen_of_row wr _ j _ 70 hu
        have h : j = 0 ∨ j = 1 ∨ j = 2 ∨ j = 3 ∨ j = 4 := by omega
        clear hj
        rcases h with rfl | rfl | rfl | rfl | rfl
        · have hcell : wr.cell? ⟨w.heap.size + 1 + 1 + 1, 0, none⟩ = some (.int .u64 (u 0 : Nat)) := by rw [cell_of_row wr _ 0 _ 70 (0, 0) hu, W8_get u (by omega)]
          obtain ⟨hi, lo, s0, c0, s1, c1, k1, k2, k3, hcar, hs1, hstep⟩ := step64 (x := a0) (y := b0) (p := u 0) (c := c) (by rw [← HA.out.1]; exact lm_lt _ _) (by rw [← HB.out.1]; exact lm_lt _ _) (hlt 0 (by omega)) hc
          have HH := hidden (p := _ ∧ _ ∧ _ ∧ _ ∧ _) ⟨hlt, hzero, hsum, hs1, hstep⟩
          clear hlt hzero hsum hs1 hstep
          go_wp2_with (go_at_call 46; refine (k1 _).mono ?_; rintro e wj ⟨rfl, rfl⟩)
          refine ⟨?rel, ?measure⟩
          case rel =>
            repeat apply Exists.intro
            refine And.intro ?_ rfl
            obtain ⟨hlt, hzero, hsum, hs1, hstep⟩ := HH.out
            refine ⟨1, hi + c0 + c1, set1 u 0 s1, by omega, by go_num, by go_num, hcar, ?_, ?_, ?_, ?_, hbi.setCell (by simp) _⟩
            · rw [← W8_set u s1 (by omega)]; exact heap_setCell_same _ _ 0 _ 70 _ hu
            · intro i hi
              by_cases h : i = 0
              · subst h; rw [set1_eq]; exact hs1
              · rw [set1_ne u h]; exact hlt i hi
            · intro i hi; rw [set1_ne u (by omega)]; exact hzero i hi
            · exact inner_step (q := 0) (j := 0) (by omega) HB.out.1 hstep hsum
          case measure => simp [intOf]
        · have hcell : wr.cell? ⟨w.heap.size + 1 + 1 + 1, 1, none⟩ = some (.int .u64 (u 1 : Nat)) := by rw [cell_of_row wr _ 1 _ 70 (0, 0) hu, W8_get u (by omega)]
          obtain ⟨hi, lo, s0, c0, s1, c1, k1, k2, k3, hcar, hs1, hstep⟩ := step64 (x := a0) (y := b1) (p := u 1) (c := c) (by rw [← HA.out.1]; exact lm_lt _ _) (by rw [← HB.out.2.1]; exact lm_lt _ _) (hlt 1 (by omega)) hc
          have HH := hidden (p := _ ∧ _ ∧ _ ∧ _ ∧ _) ⟨hlt, hzero, hsum, hs1, hstep⟩
          clear hlt hzero hsum hs1 hstep
          go_wp2_with (go_at_call 46; refine (k1 _).mono ?_; rintro e wj ⟨rfl, rfl⟩)
          refine ⟨?rel, ?measure⟩
          case rel =>
            repeat apply Exists.intro
            refine And.intro ?_ rfl
            obtain ⟨hlt, hzero, hsum, hs1, hstep⟩ := HH.out
            refine ⟨2, hi + c0 + c1, set1 u 1 s1, by omega, by go_num, by go_num, hcar, ?_, ?_, ?_, ?_, hbi.setCell (by simp) _⟩
            · rw [← W8_set u s1 (by omega)]; exact heap_setCell_same _ _ 1 _ 70 _ hu
            · intro i hi
              by_cases h : i = 1
              · subst h; rw [set1_eq]; exact hs1
              · rw [set1_ne u h]; exact hlt i hi
            · intro i hi; rw [set1_ne u (by omega)]; exact hzero i hi
            · exact inner_step (q := 0) (j := 1) (by omega) HB.out.2.1 hstep hsum
          case measure => simp [intOf]
        · have hcell : wr.cell? ⟨w.heap.size + 1 + 1 + 1, 2, none⟩ = some (.int .u64 (u 2 : Nat)) := by rw [cell_of_row wr _ 2 _ 70 (0, 0) hu, W8_get u (by omega)]
          obtain ⟨hi, lo, s0, c0, s1, c1, k1, k2, k3, hcar, hs1, hstep⟩ := step64 (x := a0) (y := b2) (p := u 2) (c := c) (by rw [← HA.out.1]; exact lm_lt _ _) (by rw [← HB.out.2.2.1]; exact lm_lt _ _) (hlt 2 (by omega)) hc
          have HH := hidden (p := _ ∧ _ ∧ _ ∧ _ ∧ _) ⟨hlt, hzero, hsum, hs1, hstep⟩
          clear hlt hzero hsum hs1 hstep
          go_wp2_with (go_at_call 46; refine (k1 _).mono ?_; rintro e wj ⟨rfl, rfl⟩)
          refine ⟨?rel, ?measure⟩
          case rel =>
            repeat apply Exists.intro
            refine And.intro ?_ rfl
            obtain ⟨hlt, hzero, hsum, hs1, hstep⟩ := HH.out
            refine ⟨3, hi + c0 + c1, set1 u 2 s1, by omega, by go_num, by go_num, hcar, ?_, ?_, ?_, ?_, hbi.setCell (by simp) _⟩
            · rw [← W8_set u s1 (by omega)]; exact heap_setCell_same _ _ 2 _ 70 _ hu
            · intro i hi
              by_cases h : i = 2
              · subst h; rw [set1_eq]; exact hs1
              · rw [set1_ne u h]; exact hlt i hi
            · intro i hi; rw [set1_ne u (by omega)]; exact hzero i hi
            · exact inner_step (q := 0) (j := 2) (by omega) HB.out.2.2.1 hstep hsum
          case measure => simp [intOf]
        · have hcell : wr.cell? ⟨w.heap.size + 1 + 1 + 1, 3, none⟩ = some (.int .u64 (u 3 : Nat)) := by rw [cell_of_row wr _ 3 _ 70 (0, 0) hu, W8_get u (by omega)]
          obtain ⟨hi, lo, s0, c0, s1, c1, k1, k2, k3, hcar, hs1, hstep⟩ := step64 (x := a0) (y := b3) (p := u 3) (c := c) (by rw [← HA.out.1]; exact lm_lt _ _) (by rw [← HB.out.2.2.2]; exact lm_lt _ _) (hlt 3 (by omega)) hc
          have HH := hidden (p := _ ∧ _ ∧ _ ∧ _ ∧ _) ⟨hlt, hzero, hsum, hs1, hstep⟩
          clear hlt hzero hsum hs1 hstep
          go_wp2_with (go_at_call 46; refine (k1 _).mono ?_; rintro e wj ⟨rfl, rfl⟩)
          refine ⟨?rel, ?measure⟩
          case rel =>
            repeat apply Exists.intro
            refine And.intro ?_ rfl
            obtain ⟨hlt, hzero, hsum, hs1, hstep⟩ := HH.out
            refine ⟨4, hi + c0 + c1, set1 u 3 s1, by omega, by go_num, by go_num, hcar, ?_, ?_, ?_, ?_, hbi.setCell (by simp) _⟩
            · rw [← W8_set u s1 (by omega)]; exact heap_setCell_same _ _ 3 _ 70 _ hu
            · intro i hi
              by_cases h : i = 3
              · subst h; rw [set1_eq]; exact hs1
              · rw [set1_ne u h]; exact hlt i hi
            · intro i hi; rw [set1_ne u (by omega)]; exact hzero i hi
            · exact inner_step (q := 0) (j := 3) (by omega) HB.out.2.2.2 hstep hsum
          case measure => simp [intOf]
        · have HH := hidden (p := _ ∧ _ ∧ _) ⟨hlt, hzero, hsum⟩
          have hcell : wr.cell? ⟨w.heap.size + 1 + 1 + 1, 4, none⟩ = some (.int .u64 (u 4 : Nat)) := by rw [cell_of_row wr _ 4 _ 70 (0, 0) hu, W8_get u (by omega)]
          clear hlt hzero hsum
          go_wp2
          go_roundw
          case rel =>
            obtain ⟨hlt, hzero, hsum⟩ := HH.out
            refine ⟨1, set1 u 4 c, by omega, by go_num, ?_, ?_, ?_, outer_step (q := 0) (by omega) HA.out.1 HR.out.2.2 (hzero _ (by omega)) hsum, hbi.setCell (by simp) _⟩
            · rw [← W8_set u c (by omega)]; exact heap_setCell_same _ _ 4 _ 70 _ hu
            · intro i hi
              by_cases h : i = 4
              · subst h; rw [set1_eq]; exact hc
              · rw [set1_ne u h]; exact hlt i hi
            · intro i hi; rw [set1_ne u (by omega)]; exact hzero i (by omega)
          case measure => simp [intOf]
    · go_wp2
      go_loopw [20, 8] (fun i o wr => ∃ (j c : Nat) (u : Nat → Nat), j ≤ 4 ∧ i = .int .i64 j ∧ o = .int .u64 c ∧ c < 18446744073709551616 ∧ wr.heap[w.heap.size + 1 + 1 + 1]? = some (.cells (W8 u) 70 (0, 0)) ∧
          (∀ j, j < 8 → u j < 18446744073709551616) ∧ (∀ j, 5 ≤ j → u j = 0) ∧ lim u 8 + c * 18446744073709551616 ^ (1 + j) = x % 18446744073709551616 ^ 1 * y + a1 * (y % 18446744073709551616 ^ j) * 18446744073709551616 ^ 1 ∧
          Below (w.heap.size + 1 + 1 + 1) (((w.alloc (.cells #[.int .u64 a0, .int .u64 a1, .int .u64 a2, .int .u64 a3] 24)).alloc (.cells #[.int .u64 b0, .int .u64 b1, .int .u64 b2, .int .u64 b3] 24)).alloc (.cells #[.int .u64 0, .int .u64 0, .int .u64 0, .int .u64 0, .int .u64 0, .int .u64 0, .int .u64 0, .int .u64 0] 70)) wr)
        (fun i _ _ => 4 - (intOf i).toNat)
      case atStart => exact ⟨0, 0, p, by omega, rfl, rfl, by omega, hp, HP.out.1, HP.out.2.1, by rw [HP.out.2.2]; simp [Nat.mod_one], hbel⟩
      case round =>
        obtain ⟨j, c, u, hj, rfl, rfl, hc, hu, hlt, hzero, hsum, hbi⟩ := hrel
        clear hp hbel HP q0 q1 q2 q3 hsz
        have hz : ∀ j, wr.frozen? ⟨w.heap.size + 1 + 1 + 1, j, none⟩ = false := fun j => frozen_of_row wr _ j _ 70 hu
        have h : j = 0 ∨ j = 1 ∨ j = 2 ∨ j = 3 ∨ j = 4 := by omega
        clear hj
        rcases h with rfl | rfl | rfl | rfl | rfl
        · have hcell : wr.cell? ⟨w.heap.size + 1 + 1 + 1, 1, none⟩ = some (.int .u64 (u 1 : Nat)) := by rw [cell_of_row wr _ 1 _ 70 (0, 0) hu, W8_get u (by omega)]
          obtain ⟨hi, lo, s0, c0, s1, c1, k1, k2, k3, hcar, hs1, hstep⟩ := step64 (x := a1) (y := b0) (p := u 1) (c := c) (by rw [← HA.out.2.1]; exact lm_lt _ _) (by rw [← HB.out.1]; exact lm_lt _ _) (hlt 1 (by omega)) hc
          have HH := hidden (p := _ ∧ _ ∧ _ ∧ _ ∧ _) ⟨hlt, hzero, hsum, hs1, hstep⟩
          clear hlt hzero hsum hs1 hstep
          go_wp2_with (go_at_call 46; refine (k1 _).mono ?_; rintro e wj ⟨rfl, rfl⟩)
          refine ⟨?rel, ?measure⟩
          case rel =>
            repeat apply Exists.intro
            refine And.intro ?_ rfl
            obtain ⟨hlt, hzero, hsum, hs1, hstep⟩ := HH.out
            refine ⟨1, hi + c0 + c1, set1 u 1 s1, by omega, by go_num, by go_num, hcar, ?_, ?_, ?_, ?_, hbi.setCell (by simp) _⟩
            · rw [← W8_set u s1 (by omega)]; exact heap_setCell_same _ _ 1 _ 70 _ hu
            · intro i hi
              by_cases h : i = 1
              · subst h; rw [set1_eq]; exact hs1
              · rw [set1_ne u h]; exact hlt i hi
            · intro i hi; rw [set1_ne u (by omega)]; exact hzero i hi
            · exact inner_step (q := 1) (j := 0) (by omega) HB.out.1 hstep hsum
          case measure => simp [intOf]
        · have hcell : wr.cell? ⟨w.heap.size + 1 + 1 + 1, 2, none⟩ = some (.int .u64 (u 2 : Nat)) := by rw [cell_of_row wr _ 2 _ 70 (0, 0) hu, W8_get u (by omega)]
          obtain ⟨hi, lo, s0, c0, s1, c1, k1, k2, k3, hcar, hs1, hstep⟩ := step64 (x := a1) (y := b1) (p := u 2) (c := c) (by rw [← HA.out.2.1]; exact lm_lt _ _) (by rw [← HB.out.2.1]; exact lm_lt _ _) (hlt 2 (by omega)) hc
          have HH := hidden (p := _ ∧ _ ∧ _ ∧ _ ∧ _) ⟨hlt, hzero, hsum, hs1, hstep⟩
          clear hlt hzero hsum hs1 hstep
          go_wp2_with (go_at_call 46; refine (k1 _).mono ?_; rintro e wj ⟨rfl, rfl⟩)
          refine ⟨?rel, ?measure⟩
          case rel =>
            repeat apply Exists.intro
            refine And.intro ?_ rfl
            obtain ⟨hlt, hzero, hsum, hs1, hstep⟩ := HH.out
            refine ⟨2, hi + c0 + c1, set1 u 2 s1, by omega, by go_num, by go_num, hcar, ?_, ?_, ?_, ?_, hbi.setCell (by simp) _⟩
            · rw [← W8_set u s1 (by omega)]; exact heap_setCell_same _ _ 2 _ 70 _ hu
            · intro i hi
              by_cases h : i = 2
              · subst h; rw [set1_eq]; exact hs1
              · rw [set1_ne u h]; exact hlt i hi
            · intro i hi; rw [set1_ne u (by omega)]; exact hzero i hi
            · exact inner_step (q := 1) (j := 1) (by omega) HB.out.2.1 hstep hsum
          case measure => simp [intOf]
        · have hcell : wr.cell? ⟨w.heap.size + 1 + 1 + 1, 3, none⟩ = some (.int .u64 (u 3 : Nat)) := by rw [cell_of_row wr _ 3 _ 70 (0, 0) hu, W8_get u (by omega)]
          obtain ⟨hi, lo, s0, c0, s1, c1, k1, k2, k3, hcar, hs1, hstep⟩ := step64 (x := a1) (y := b2) (p := u 3) (c := c) (by rw [← HA.out.2.1]; exact lm_lt _ _) (by rw [← HB.out.2.2.1]; exact lm_lt _ _) (hlt 3 (by omega)) hc
          have HH := hidden (p := _ ∧ _ ∧ _ ∧ _ ∧ _) ⟨hlt, hzero, hsum, hs1, hstep⟩
          clear hlt hzero hsum hs1 hstep
          go_wp2_with (go_at_call 46; refine (k1 _).mono ?_; rintro e wj ⟨rfl, rfl⟩)
          refine ⟨?rel, ?measure⟩
          case rel =>
            repeat apply Exists.intro
            refine And.intro ?_ rfl
            obtain ⟨hlt, hzero, hsum, hs1, hstep⟩ := HH.out
            refine ⟨3, hi + c0 + c1, set1 u 3 s1, by omega, by go_num, by go_num, hcar, ?_, ?_, ?_, ?_, hbi.setCell (by simp) _⟩
            · rw [← W8_set u s1 (by omega)]; exact heap_setCell_same _ _ 3 _ 70 _ hu
            · intro i hi
              by_cases h : i = 3
              · subst h; rw [set1_eq]; exact hs1
              · rw [set1_ne u h]; exact hlt i hi
            · intro i hi; rw [set1_ne u (by omega)]; exact hzero i hi
            · exact inner_step (q := 1) (j := 2) (by omega) HB.out.2.2.1 hstep hsum
          case measure => simp [intOf]
        · have hcell : wr.cell? ⟨w.heap.size + 1 + 1 + 1, 4, none⟩ = some (.int .u64 (u 4 : Nat)) := by rw [cell_of_row wr _ 4 _ 70 (0, 0) hu, W8_get u (by omega)]
          obtain ⟨hi, lo, s0, c0, s1, c1, k1, k2, k3, hcar, hs1, hstep⟩ := step64 (x := a1) (y := b3) (p := u 4) (c := c) (by rw [← HA.out.2.1]; exact lm_lt _ _) (by rw [← HB.out.2.2.2]; exact lm_lt _ _) (hlt 4 (by omega)) hc
          have HH := hidden (p := _ ∧ _ ∧ _ ∧ _ ∧ _) ⟨hlt, hzero, hsum, hs1, hstep⟩
          clear hlt hzero hsum hs1 hstep
          go_wp2_with (go_at_call 46; refine (k1 _).mono ?_; rintro e wj ⟨rfl, rfl⟩)
          refine ⟨?rel, ?measure⟩
          case rel =>
            repeat apply Exists.intro
            refine And.intro ?_ rfl
            obtain ⟨hlt, hzero, hsum, hs1, hstep⟩ := HH.out
            refine ⟨4, hi + c0 + c1, set1 u 4 s1, by omega, by go_num, by go_num, hcar, ?_, ?_, ?_, ?_, hbi.setCell (by simp) _⟩
            · rw [← W8_set u s1 (by omega)]; exact heap_setCell_same _ _ 4 _ 70 _ hu
            · intro i hi
              by_cases h : i = 4
              · subst h; rw [set1_eq]; exact hs1
              · rw [set1_ne u h]; exact hlt i hi
            · intro i hi; rw [set1_ne u (by omega)]; exact hzero i hi
            · exact inner_step (q := 1) (j := 3) (by omega) HB.out.2.2.2 hstep hsum
          case measure => simp [intOf]
        · have HH := hidden (p := _ ∧ _ ∧ _) ⟨hlt, hzero, hsum⟩
          have hcell : wr.cell? ⟨w.heap.size + 1 + 1 + 1, 5, none⟩ = some (.int .u64 (u 5 : Nat)) := by rw [cell_of_row wr _ 5 _ 70 (0, 0) hu, W8_get u (by omega)]
          clear hlt hzero hsum
          go_wp2
          go_roundw
          case rel =>
            obtain ⟨hlt, hzero, hsum⟩ := HH.out
            refine ⟨2, set1 u 5 c, by omega, by go_num, ?_, ?_, ?_, outer_step (q := 1) (by omega) HA.out.2.1 HR.out.2.2 (hzero _ (by omega)) hsum, hbi.setCell (by simp) _⟩
            · rw [← W8_set u c (by omega)]; exact heap_setCell_same _ _ 5 _ 70 _ hu
            · intro i hi
              by_cases h : i = 5
              · subst h; rw [set1_eq]; exact hc
              · rw [set1_ne u h]; exact hlt i hi
            · intro i hi; rw [set1_ne u (by omega)]; exact hzero i (by omega)
          case measure => simp [intOf]
    · go_wp2
      go_loopw [20, 8] (fun i o wr => ∃ (j c : Nat) (u : Nat → Nat), j ≤ 4 ∧ i = .int .i64 j ∧ o = .int .u64 c ∧ c < 18446744073709551616 ∧ wr.heap[w.heap.size + 1 + 1 + 1]? = some (.cells (W8 u) 70 (0, 0)) ∧
          (∀ j, j < 8 → u j < 18446744073709551616) ∧ (∀ j, 6 ≤ j → u j = 0) ∧ lim u 8 + c * 18446744073709551616 ^ (2 + j) = x % 18446744073709551616 ^ 2 * y + a2 * (y % 18446744073709551616 ^ j) * 18446744073709551616 ^ 2 ∧
          Below (w.heap.size + 1 + 1 + 1) (((w.alloc (.cells #[.int .u64 a0, .int .u64 a1, .int .u64 a2, .int .u64 a3] 24)).alloc (.cells #[.int .u64 b0, .int .u64 b1, .int .u64 b2, .int .u64 b3] 24)).alloc (.cells #[.int .u64 0, .int .u64 0, .int .u64 0, .int .u64 0, .int .u64 0, .int .u64 0, .int .u64 0, .int .u64 0] 70)) wr)
        (fun i _ _ => 4 - (intOf i).toNat)
      case atStart => exact ⟨0, 0, p, by omega, rfl, rfl, by omega, hp, HP.out.1, HP.out.2.1, by rw [HP.out.2.2]; simp [Nat.mod_one], hbel⟩
      case round =>
        obtain ⟨j, c, u, hj, rfl, rfl, hc, hu, hlt, hzero, hsum, hbi⟩ := hrel
        clear hp hbel HP q0 q1 q2 q3 hsz
        have hz : ∀ j, wr.frozen? ⟨w.heap.size + 1 + 1 + 1, j, none⟩ = false := fun j => frozen_of_row wr _ j _ 70 hu
        have h : j = 0 ∨ j = 1 ∨ j = 2 ∨ j = 3 ∨ j = 4 := by omega
        clear hj
        rcases h with rfl | rfl | rfl | rfl | rfl
        · have hcell : wr.cell? ⟨w.heap.size + 1 + 1 + 1, 2, none⟩ = some (.int .u64 (u 2 : Nat)) := by rw [cell_of_row wr _ 2 _ 70 (0, 0) hu, W8_get u (by omega)]
          obtain ⟨hi, lo, s0, c0, s1, c1, k1, k2, k3, hcar, hs1, hstep⟩ := step64 (x := a2) (y := b0) (p := u 2) (c := c) (by rw [← HA.out.2.2.1]; exact lm_lt _ _) (by rw [← HB.out.1]; exact lm_lt _ _) (hlt 2 (by omega)) hc
          have HH := hidden (p := _ ∧ _ ∧ _ ∧ _ ∧ _) ⟨hlt, hzero, hsum, hs1, hstep⟩
          clear hlt hzero hsum hs1 hstep
          go_wp2_with (go_at_call 46; refine (k1 _).mono ?_; rintro e wj ⟨rfl, rfl⟩)
          refine ⟨?rel, ?measure⟩
          case rel =>
            repeat apply Exists.intro
            refine And.intro ?_ rfl
            obtain ⟨hlt, hzero, hsum, hs1, hstep⟩ := HH.out
            refine ⟨1, hi + c0 + c1, set1 u 2 s1, by omega, by go_num, by go_num, hcar, ?_, ?_, ?_, ?_, hbi.setCell (by simp) _⟩
            · rw [← W8_set u s1 (by omega)]; exact heap_setCell_same _ _ 2 _ 70 _ hu
            · intro i hi
              by_cases h : i = 2
              · subst h; rw [set1_eq]; exact hs1
              · rw [set1_ne u h]; exact hlt i hi
            · intro i hi; rw [set1_ne u (by omega)]; exact hzero i hi
            · exact inner_step (q := 2) (j := 0) (by omega) HB.out.1 hstep hsum
          case measure => simp [intOf]
        · have hcell : wr.cell? ⟨w.heap.size + 1 + 1 + 1, 3, none⟩ = some (.int .u64 (u 3 : Nat)) := by rw [cell_of_row wr _ 3 _ 70 (0, 0) hu, W8_get u (by omega)]
          obtain ⟨hi, lo, s0, c0, s1, c1, k1, k2, k3, hcar, hs1, hstep⟩ := step64 (x := a2) (y := b1) (p := u 3) (c := c) (by rw [← HA.out.2.2.1]; exact lm_lt _ _) (by rw [← HB.out.2.1]; exact lm_lt _ _) (hlt 3 (by omega)) hc
          have HH := hidden (p := _ ∧ _ ∧ _ ∧ _ ∧ _) ⟨hlt, hzero, hsum, hs1, hstep⟩
          clear hlt hzero hsum hs1 hstep
          go_wp2_with (go_at_call 46; refine (k1 _).mono ?_; rintro e wj ⟨rfl, rfl⟩)
          refine ⟨?rel, ?measure⟩
          case rel =>
            repeat apply Exists.intro
            refine And.intro ?_ rfl
            obtain ⟨hlt, hzero, hsum, hs1, hstep⟩ := HH.out
            refine ⟨2, hi + c0 + c1, set1 u 3 s1, by omega, by go_num, by go_num, hcar, ?_, ?_, ?_, ?_, hbi.setCell (by simp) _⟩
            · rw [← W8_set u s1 (by omega)]; exact heap_setCell_same _ _ 3 _ 70 _ hu
            · intro i hi
              by_cases h : i = 3
              · subst h; rw [set1_eq]; exact hs1
              · rw [set1_ne u h]; exact hlt i hi
            · intro i hi; rw [set1_ne u (by omega)]; exact hzero i hi
            · exact inner_step (q := 2) (j := 1) (by omega) HB.out.2.1 hstep hsum
          case measure => simp [intOf]
        · have hcell : wr.cell? ⟨w.heap.size + 1 + 1 + 1, 4, none⟩ = some (.int .u64 (u 4 : Nat)) := by rw [cell_of_row wr _ 4 _ 70 (0, 0) hu, W8_get u (by omega)]
          obtain ⟨hi, lo, s0, c0, s1, c1, k1, k2, k3, hcar, hs1, hstep⟩ := step64 (x := a2) (y := b2) (p := u 4) (c := c) (by rw [← HA.out.2.2.1]; exact lm_lt _ _) (by rw [← HB.out.2.2.1]; exact lm_lt _ _) (hlt 4 (by omega)) hc
          have HH := hidden (p := _ ∧ _ ∧ _ ∧ _ ∧ _) ⟨hlt, hzero, hsum, hs1, hstep⟩
          clear hlt hzero hsum hs1 hstep
          go_wp2_with (go_at_call 46; refine (k1 _).mono ?_; rintro e wj ⟨rfl, rfl⟩)
          refine ⟨?rel, ?measure⟩
          case rel =>
            repeat apply Exists.intro
            refine And.intro ?_ rfl
            obtain ⟨hlt, hzero, hsum, hs1, hstep⟩ := HH.out
            refine ⟨3, hi + c0 + c1, set1 u 4 s1, by omega, by go_num, by go_num, hcar, ?_, ?_, ?_, ?_, hbi.setCell (by simp) _⟩
            · rw [← W8_set u s1 (by omega)]; exact heap_setCell_same _ _ 4 _ 70 _ hu
            · intro i hi
              by_cases h : i = 4
              · subst h; rw [set1_eq]; exact hs1
              · rw [set1_ne u h]; exact hlt i hi
            · intro i hi; rw [set1_ne u (by omega)]; exact hzero i hi
            · exact inner_step (q := 2) (j := 2) (by omega) HB.out.2.2.1 hstep hsum
          case measure => simp [intOf]
        · have hcell : wr.cell? ⟨w.heap.size + 1 + 1 + 1, 5, none⟩ = some (.int .u64 (u 5 : Nat)) := by rw [cell_of_row wr _ 5 _ 70 (0, 0) hu, W8_get u (by omega)]
          obtain ⟨hi, lo, s0, c0, s1, c1, k1, k2, k3, hcar, hs1, hstep⟩ := step64 (x := a2) (y := b3) (p := u 5) (c := c) (by rw [← HA.out.2.2.1]; exact lm_lt _ _) (by rw [← HB.out.2.2.2]; exact lm_lt _ _) (hlt 5 (by omega)) hc
          have HH := hidden (p := _ ∧ _ ∧ _ ∧ _ ∧ _) ⟨hlt, hzero, hsum, hs1, hstep⟩
          clear hlt hzero hsum hs1 hstep
          go_wp2_with (go_at_call 46; refine (k1 _).mono ?_; rintro e wj ⟨rfl, rfl⟩)
          refine ⟨?rel, ?measure⟩
          case rel =>
            repeat apply Exists.intro
            refine And.intro ?_ rfl
            obtain ⟨hlt, hzero, hsum, hs1, hstep⟩ := HH.out
            refine ⟨4, hi + c0 + c1, set1 u 5 s1, by omega, by go_num, by go_num, hcar, ?_, ?_, ?_, ?_, hbi.setCell (by simp) _⟩
            · rw [← W8_set u s1 (by omega)]; exact heap_setCell_same _ _ 5 _ 70 _ hu
            · intro i hi
              by_cases h : i = 5
              · subst h; rw [set1_eq]; exact hs1
              · rw [set1_ne u h]; exact hlt i hi
            · intro i hi; rw [set1_ne u (by omega)]; exact hzero i hi
            · exact inner_step (q := 2) (j := 3) (by omega) HB.out.2.2.2 hstep hsum
          case measure => simp [intOf]
        · have HH := hidden (p := _ ∧ _ ∧ _) ⟨hlt, hzero, hsum⟩
          have hcell : wr.cell? ⟨w.heap.size + 1 + 1 + 1, 6, none⟩ = some (.int .u64 (u 6 : Nat)) := by rw [cell_of_row wr _ 6 _ 70 (0, 0) hu, W8_get u (by omega)]
          clear hlt hzero hsum
          go_wp2
          go_roundw
          case rel =>
            obtain ⟨hlt, hzero, hsum⟩ := HH.out
            refine ⟨3, set1 u 6 c, by omega, by go_num, ?_, ?_, ?_, outer_step (q := 2) (by omega) HA.out.2.2.1 HR.out.2.2 (hzero _ (by omega)) hsum, hbi.setCell (by simp) _⟩
            · rw [← W8_set u c (by omega)]; exact heap_setCell_same _ _ 6 _ 70 _ hu
            · intro i hi
              by_cases h : i = 6
              · subst h; rw [set1_eq]; exact hc
              · rw [set1_ne u h]; exact hlt i hi
            · intro i hi; rw [set1_ne u (by omega)]; exact hzero i (by omega)
          case measure => simp [intOf]
    · go_wp2
      go_loopw [20, 8] (fun i o wr => ∃ (j c : Nat) (u : Nat → Nat), j ≤ 4 ∧ i = .int .i64 j ∧ o = .int .u64 c ∧ c < 18446744073709551616 ∧ wr.heap[w.heap.size + 1 + 1 + 1]? = some (.cells (W8 u) 70 (0, 0)) ∧
          (∀ j, j < 8 → u j < 18446744073709551616) ∧ (∀ j, 7 ≤ j → u j = 0) ∧ lim u 8 + c * 18446744073709551616 ^ (3 + j) = x % 18446744073709551616 ^ 3 * y + a3 * (y % 18446744073709551616 ^ j) * 18446744073709551616 ^ 3 ∧
          Below (w.heap.size + 1 + 1 + 1) (((w.alloc (.cells #[.int .u64 a0, .int .u64 a1, .int .u64 a2, .int .u64 a3] 24)).alloc (.cells #[.int .u64 b0, .int .u64 b1, .int .u64 b2, .int .u64 b3] 24)).alloc (.cells #[.int .u64 0, .int .u64 0, .int .u64 0, .int .u64 0, .int .u64 0, .int .u64 0, .int .u64 0, .int .u64 0] 70)) wr)
        (fun i _ _ => 4 - (intOf i).toNat)
      case atStart => exact ⟨0, 0, p, by omega, rfl, rfl, by omega, hp, HP.out.1, HP.out.2.1, by rw [HP.out.2.2]; simp [Nat.mod_one], hbel⟩
      case round =>
        obtain ⟨j, c, u, hj, rfl, rfl, hc, hu, hlt, hzero, hsum, hbi⟩ := hrel
        clear hp hbel HP q0 q1 q2 q3 hsz
        have hz : ∀ j, wr.frozen? ⟨w.heap.size + 1 + 1 + 1, j, none⟩ = false := fun j => frozen_of_row wr _ j _ 70 hu
        have h : j = 0 ∨ j = 1 ∨ j = 2 ∨ j = 3 ∨ j = 4 := by omega
        clear hj
        rcases h with rfl | rfl | rfl | rfl | rfl
        · have hcell : wr.cell? ⟨w.heap.size + 1 + 1 + 1, 3, none⟩ = some (.int .u64 (u 3 : Nat)) := by rw [cell_of_row wr _ 3 _ 70 (0, 0) hu, W8_get u (by omega)]
          obtain ⟨hi, lo, s0, c0, s1, c1, k1, k2, k3, hcar, hs1, hstep⟩ := step64 (x := a3) (y := b0) (p := u 3) (c := c) (by rw [← HA.out.2.2.2]; exact lm_lt _ _) (by rw [← HB.out.1]; exact lm_lt _ _) (hlt 3 (by omega)) hc
          have HH := hidden (p := _ ∧ _ ∧ _ ∧ _ ∧ _) ⟨hlt, hzero, hsum, hs1, hstep⟩
          clear hlt hzero hsum hs1 hstep
          go_wp2_with (go_at_call 46; refine (k1 _).mono ?_; rintro e wj ⟨rfl, rfl⟩)
          refine ⟨?rel, ?measure⟩
          case rel =>
            repeat apply Exists.intro
            refine And.intro ?_ rfl
            obtain ⟨hlt, hzero, hsum, hs1, hstep⟩ := HH.out
            refine ⟨1, hi + c0 + c1, set1 u 3 s1, by omega, by go_num, by go_num, hcar, ?_, ?_, ?_, ?_, hbi.setCell (by simp) _⟩
            · rw [← W8_set u s1 (by omega)]; exact heap_setCell_same _ _ 3 _ 70 _ hu
            · intro i hi
              by_cases h : i = 3
              · subst h; rw [set1_eq]; exact hs1
              · rw [set1_ne u h]; exact hlt i hi
            · intro i hi; rw [set1_ne u (by omega)]; exact hzero i hi
            · exact inner_step (q := 3) (j := 0) (by omega) HB.out.1 hstep hsum
          case measure => simp [intOf]
        · have hcell : wr.cell? ⟨w.heap.size + 1 + 1 + 1, 4, none⟩ = some (.int .u64 (u 4 : Nat)) := by rw [cell_of_row wr _ 4 _ 70 (0, 0) hu, W8_get u (by omega)]
          obtain ⟨hi, lo, s0, c0, s1, c1, k1, k2, k3, hcar, hs1, hstep⟩ := step64 (x := a3) (y := b1) (p := u 4) (c := c) (by rw [← HA.out.2.2.2]; exact lm_lt _ _) (by rw [← HB.out.2.1]; exact lm_lt _ _) (hlt 4 (by omega)) hc
          have HH := hidden (p := _ ∧ _ ∧ _ ∧ _ ∧ _) ⟨hlt, hzero, hsum, hs1, hstep⟩
          clear hlt hzero hsum hs1 hstep
          go_wp2_with (go_at_call 46; refine (k1 _).mono ?_; rintro e wj ⟨rfl, rfl⟩)
          refine ⟨?rel, ?measure⟩
          case rel =>
            repeat apply Exists.intro
            refine And.intro ?_ rfl
            obtain ⟨hlt, hzero, hsum, hs1, hstep⟩ := HH.out
            refine ⟨2, hi + c0 + c1, set1 u 4 s1, by omega, by go_num, by go_num, hcar, ?_, ?_, ?_, ?_, hbi.setCell (by simp) _⟩
            · rw [← W8_set u s1 (by omega)]; exact heap_setCell_same _ _ 4 _ 70 _ hu
            · intro i hi
              by_cases h : i = 4
              · subst h; rw [set1_eq]; exact hs1
              · rw [set1_ne u h]; exact hlt i hi
            · intro i hi; rw [set1_ne u (by omega)]; exact hzero i hi
            · exact inner_step (q := 3) (j := 1) (by omega) HB.out.2.1 hstep hsum
          case measure => simp [intOf]
        · have hcell : wr.cell? ⟨w.heap.size + 1 + 1 + 1, 5, none⟩ = some (.int .u64 (u 5 : Nat)) := by rw [cell_of_row wr _ 5 _ 70 (0, 0) hu, W8_get u (by omega)]
          obtain ⟨hi, lo, s0, c0, s1, c1, k1, k2, k3, hcar, hs1, hstep⟩ := step64 (x := a3) (y := b2) (p := u 5) (c := c) (by rw [← HA.out.2.2.2]; exact lm_lt _ _) (by rw [← HB.out.2.2.1]; exact lm_lt _ _) (hlt 5 (by omega)) hc
          have HH := hidden (p := _ ∧ _ ∧ _ ∧ _ ∧ _) ⟨hlt, hzero, hsum, hs1, hstep⟩
          clear hlt hzero hsum hs1 hstep
          go_wp2_with (go_at_call 46; refine (k1 _).mono ?_; rintro e wj ⟨rfl, rfl⟩)
          refine ⟨?rel, ?measure⟩
          case rel =>
            repeat apply Exists.intro
            refine And.intro ?_ rfl
            obtain ⟨hlt, hzero, hsum, hs1, hstep⟩ := HH.out
            refine ⟨3, hi + c0 + c1, set1 u 5 s1, by omega, by go_num, by go_num, hcar, ?_, ?_, ?_, ?_, hbi.setCell (by simp) _⟩
            · rw [← W8_set u s1 (by omega)]; exact heap_setCell_same _ _ 5 _ 70 _ hu
            · intro i hi
              by_cases h : i = 5
              · subst h; rw [set1_eq]; exact hs1
              · rw [set1_ne u h]; exact hlt i hi
            · intro i hi; rw [set1_ne u (by omega)]; exact hzero i hi
            · exact inner_step (q := 3) (j := 2) (by omega) HB.out.2.2.1 hstep hsum
          case measure => simp [intOf]
        · have hcell : wr.cell? ⟨w.heap.size + 1 + 1 + 1, 6, none⟩ = some (.int .u64 (u 6 : Nat)) := by rw [cell_of_row wr _ 6 _ 70 (0, 0) hu, W8_get u (by omega)]
          obtain ⟨hi, lo, s0, c0, s1, c1, k1, k2, k3, hcar, hs1, hstep⟩ := step64 (x := a3) (y := b3) (p := u 6) (c := c) (by rw [← HA.out.2.2.2]; exact lm_lt _ _) (by rw [← HB.out.2.2.2]; exact lm_lt _ _) (hlt 6 (by omega)) hc
          have HH := hidden (p := _ ∧ _ ∧ _ ∧ _ ∧ _) ⟨hlt, hzero, hsum, hs1, hstep⟩
          clear hlt hzero hsum hs1 hstep
          go_wp2_with (go_at_call 46; refine (k1 _).mono ?_; rintro e wj ⟨rfl, rfl⟩)
          refine ⟨?rel, ?measure⟩
          case rel =>
            repeat apply Exists.intro
            refine And.intro ?_ rfl
            obtain ⟨hlt, hzero, hsum, hs1, hstep⟩ := HH.out
            refine ⟨4, hi + c0 + c1, set1 u 6 s1, by omega, by go_num, by go_num, hcar, ?_, ?_, ?_, ?_, hbi.setCell (by simp) _⟩
            · rw [← W8_set u s1 (by omega)]; exact heap_setCell_same _ _ 6 _ 70 _ hu
            · intro i hi
              by_cases h : i = 6
              · subst h; rw [set1_eq]; exact hs1
              · rw [set1_ne u h]; exact hlt i hi
            · intro i hi; rw [set1_ne u (by omega)]; exact hzero i hi
            · exact inner_step (q := 3) (j := 3) (by omega) HB.out.2.2.2 hstep hsum
          case measure => simp [intOf]
        · have HH := hidden (p := _ ∧ _ ∧ _) ⟨hlt, hzero, hsum⟩
          have hcell : wr.cell? ⟨w.heap.size + 1 + 1 + 1, 7, none⟩ = some (.int .u64 (u 7 : Nat)) := by rw [cell_of_row wr _ 7 _ 70 (0, 0) hu, W8_get u (by omega)]
          clear hlt hzero hsum
          go_wp2
          go_roundw
          case rel =>
            obtain ⟨hlt, hzero, hsum⟩ := HH.out
            refine ⟨4, set1 u 7 c, by omega, by go_num, ?_, ?_, ?_, outer_step (q := 3) (by omega) HA.out.2.2.2 HR.out.2.2 (hzero _ (by omega)) hsum, hbi.setCell (by simp) _⟩
            · rw [← W8_set u c (by omega)]; exact heap_setCell_same _ _ 7 _ 70 _ hu
            · intro i hi
              by_cases h : i = 7
              · subst h; rw [set1_eq]; exact hc
              · rw [set1_ne u h]; exact hlt i hi
            · intro i hi; rw [set1_ne u (by omega)]; exact hzero i (by omega)
          case measure => simp [intOf]
    · obtain ⟨m0, m1, m2, m3, m4, m5, m6, m7, -⟩ := cells8 hp
      obtain ⟨z0, z1, z2, z3, z4, z5, z6, z7, zz⟩ := cells8 ((hbel.block (w.heap.size + 1 + 1) (by omega)).trans (three _ _ _ _ _ _ _).2.2)
      have HQ : Hid (r = .agg (W8 p)) := by
        show r = .agg (W8 p)
        obtain ⟨hlt, -, hsum⟩ := HP.out
        have e : x % 18446744073709551616 ^ 4 = x := Nat.mod_eq_of_lt HR.out.2.1
        rw [e] at hsum
        rw [← HR.out.1, ← hsum, PV_lim hlt]
      have HD := hidden hbel
      clear HP hbel hp q0 q1 q2 q3
      unfold W8 at HQ
      go_wp2
      refine bodyPost_ret (v := .agg #[.int .u64 (p 0 : Nat), .int .u64 (p 1 : Nat), .int .u64 (p 2 : Nat), .int .u64 (p 3 : Nat), .int .u64 (p 4 : Nat), .int .u64 (p 5 : Nat), .int .u64 (p 6 : Nat), .int .u64 (p 7 : Nat)]) (by simp [results, Tryd.results35, go_sem, z0, z1, z2, z3, z4, z5, z6, z7]) rfl ⟨congrArg Ending.returned HQ.out.symm, ?_⟩
      have K := (Below.alloc (Below.alloc (Below.alloc (Below.refl w.heap.size w) (Nat.le_refl _) (.cells #[.int .u64 a0, .int .u64 a1, .int .u64 a2, .int .u64 a3] 24)) (by simp) (.cells #[.int .u64 b0, .int .u64 b1, .int .u64 b2, .int .u64 b3] 24)) (by simp; omega) (.cells #[.int .u64 0, .int .u64 0, .int .u64 0, .int .u64 0, .int .u64 0, .int .u64 0, .int .u64 0, .int .u64 0] 70)).trans (HD.out.mono (by omega))
      exact (((((((K.setCell (by simp; omega) _).setCell (by simp; omega) _).setCell (by simp; omega) _).setCell (by simp; omega) _).setCell (by simp; omega) _).setCell (by simp; omega) _).setCell (by simp; omega) _).setCell (by simp; omega) _

end Go.Proofs.YtmjdmhelmgcanaaDoor

/- num's product.low: the product, if it fits. -/
namespace Go.Proofs.YtmjdmhelmgcanaaDoor
open Go.RowKit

theorem arr27 (b o : Nat) (w : World) : (Instr.arrayAt 23 (.slice (some ⟨b, o, none⟩) 4 4)).run Tryd.prog w = .ok (.pointer (some ⟨b, o, none⟩)) w := by kernel_rfl
theorem arr28 (b o : Nat) (c : Nat) (w : World) : (Instr.arrayAt 24 (.slice (some ⟨b, o, none⟩) 4 c)).run Tryd.prog w = .ok (.pointer (some ⟨b, o, none⟩)) w := by kernel_rfl

theorem eq27 (d : Nat) (a0 a1 a2 a3 b0 b1 b2 b3 : Int) (w : World) : (Op.equalIn (d + 2) 23 (.agg #[.int .u64 a0, .int .u64 a1, .int .u64 a2, .int .u64 a3]) (.agg #[.int .u64 b0, .int .u64 b1, .int .u64 b2, .int .u64 b3])).run Tryd.prog w = .ok (decide (a0 = b0 ∧ a1 = b1 ∧ a2 = b2 ∧ a3 = b3)) w := by
  unfold Op.equalIn
  have r : List.range' 0 4 = [0, 1, 2, 3] := rfl
  simp only [go_sem, Std.Legacy.Range.forIn_eq_forIn_range', Std.Legacy.Range.size]
  simp [go_sem, r]
  by_cases h0 : a0 = b0
  · by_cases h1 : a1 = b1
    · by_cases h2 : a2 = b2
      · by_cases h3 : a3 = b3
        · subst h0 h1 h2 h3; simp [go_sem]
        · simp [go_sem, h0, h1, h2, h3]
      · simp [go_sem, h0, h1, h2]
    · simp [go_sem, h0, h1]
  · simp [go_sem, h0]

set_option maxHeartbeats 2000000 in
set_option maxRecDepth 1000000 in
theorem low_low (a0 a1 a2 a3 a4 a5 a6 a7 : Nat) (w : World) (h : a4 = 0 ∧ a5 = 0 ∧ a6 = 0 ∧ a7 = 0) :
    Calls Tryd.prog 36 #[.agg #[.int .u64 a0, .int .u64 a1, .int .u64 a2, .int .u64 a3, .int .u64 a4, .int .u64 a5, .int .u64 a6, .int .u64 a7]] w fun e w' => e = .returned (.tuple #[V4 a0 a1 a2 a3, .int .i64 0]) ∧ Below w.heap.size w w' := by
  have x27 := arr27
  have x28 := arr28
  have e27 : ∀ w, (Op.equalIn 10000 23 (.agg #[.int .u64 a4, .int .u64 a5, .int .u64 a6, .int .u64 a7]) (.agg #[.int .u64 0, .int .u64 0, .int .u64 0, .int .u64 0])).run Tryd.prog w = .ok true w := fun w => by
    rw [show (10000 : Nat) = 9998 + 2 from rfl, eq27]; congr 1; exact decide_eq_true (by omega)
  unfold V4
  clear h
  go_enter Tryd.func36, Tryd.ntmps36
  go_wp2
  refine bodyPost_ret (v := .tuple #[.agg #[.int .u64 a0, .int .u64 a1, .int .u64 a2, .int .u64 a3], .int .i64 0]) (by simp [results, Tryd.results36, go_sem]) rfl ⟨rfl, ?_⟩
  repeat (first | exact Below.refl _ _ | refine Below.setCell ?_ (by simp) _ | refine Below.alloc ?_ (by simp <;> omega) _ | refine Below.drew ?_)

set_option maxHeartbeats 2000000 in
set_option maxRecDepth 1000000 in
theorem low_high (a0 a1 a2 a3 a4 a5 a6 a7 : Nat) (w : World) (h : ¬ (a4 = 0 ∧ a5 = 0 ∧ a6 = 0 ∧ a7 = 0)) :
    Calls Tryd.prog 36 #[.agg #[.int .u64 a0, .int .u64 a1, .int .u64 a2, .int .u64 a3, .int .u64 a4, .int .u64 a5, .int .u64 a6, .int .u64 a7]] w fun e w' => e = .returned (.tuple #[V4 0 0 0 0, .int .i64 2]) ∧ Below w.heap.size w w' := by
  have x27 := arr27
  have x28 := arr28
  have e27 : ∀ w, (Op.equalIn 10000 23 (.agg #[.int .u64 a4, .int .u64 a5, .int .u64 a6, .int .u64 a7]) (.agg #[.int .u64 0, .int .u64 0, .int .u64 0, .int .u64 0])).run Tryd.prog w = .ok false w := fun w => by
    rw [show (10000 : Nat) = 9998 + 2 from rfl, eq27]; congr 1; exact decide_eq_false (by omega)
  unfold V4
  clear h
  go_enter Tryd.func36, Tryd.ntmps36
  go_wp2
  refine bodyPost_ret (v := .tuple #[.agg #[.int .u64 0, .int .u64 0, .int .u64 0, .int .u64 0], .int .i64 2]) (by simp [results, Tryd.results36, go_sem]) rfl ⟨rfl, ?_⟩
  repeat (first | exact Below.refl _ _ | refine Below.setCell ?_ (by simp) _ | refine Below.alloc ?_ (by simp <;> omega) _ | refine Below.drew ?_)

theorem PV_parts (z : Nat) : PV z = .agg #[.int .u64 (lm z 0 : Nat), .int .u64 (lm z 1 : Nat), .int .u64 (lm z 2 : Nat), .int .u64 (lm z 3 : Nat), .int .u64 (lm z 4 : Nat), .int .u64 (lm z 5 : Nat), .int .u64 (lm z 6 : Nat), .int .u64 (lm z 7 : Nat)] := by
  simp [PV, limbs]
theorem top_pow : (18446744073709551616 : Nat) ^ 4 = TOP := rfl
theorem lm_high (z j : Nat) : lm z (4 + j) = lm (z / TOP) j := by
  unfold lm; rw [Nat.pow_add, ← Nat.div_div_eq_div_mul, top_pow]
theorem high_zero {z : Nat} (hz : z < TOP * TOP) : (lm z 4 = 0 ∧ lm z 5 = 0 ∧ lm z 6 = 0 ∧ lm z 7 = 0) ↔ z < TOP := by
  have hh : z / TOP < TOP := Nat.div_lt_of_lt_mul hz
  have e4 : lm z 4 = lm (z / TOP) 0 := lm_high z 0
  have e5 : lm z 5 = lm (z / TOP) 1 := lm_high z 1
  have e6 : lm z 6 = lm (z / TOP) 2 := lm_high z 2
  have e7 : lm z 7 = lm (z / TOP) 3 := lm_high z 3
  rw [e4, e5, e6, e7]
  have hm := mk4_lm hh
  constructor
  · rintro ⟨h0, h1, h2, h3⟩
    rw [h0, h1, h2, h3] at hm
    have h0 : z / TOP = 0 := by rw [← hm]; rfl
    exact (Nat.div_eq_zero_iff_lt top_pos).1 h0
  · intro h
    rw [Nat.div_eq_of_lt h]
    exact ⟨rfl, rfl, rfl, rfl⟩

theorem low_calls (z : Nat) (hz : z < TOP * TOP) (w : World) :
    Calls Tryd.prog 36 #[PV z] w fun e w' => e = .returned (if z < TOP then .tuple #[V z, .int .i64 0] else .tuple #[V 0, .int .i64 2]) ∧ Below w.heap.size w w' := by
  rw [PV_parts]
  by_cases h : z < TOP
  · rw [if_pos h]
    exact low_low _ _ _ _ _ _ _ _ w ((high_zero hz).2 h)
  · rw [if_neg h]
    have hV0 : V 0 = V4 0 0 0 0 := V_mk4 (a := 0) (b := 0) (c := 0) (d := 0) (by omega) (by omega) (by omega) (by omega)
    rw [hV0]
    exact low_high _ _ _ _ _ _ _ _ w (fun hn => h ((high_zero hz).1 hn))

end Go.Proofs.YtmjdmhelmgcanaaDoor
