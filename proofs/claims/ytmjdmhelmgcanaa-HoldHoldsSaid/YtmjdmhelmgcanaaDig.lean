/- A number's sixteen digits of 16 bits, as the document's r01 reckons with them. -/
import Derived.Test.YtmjdmhelmgcanaaConA
import Derived.OwnWalk
import Derived.Maps.AppendAt
namespace Go.Proofs.Ytmjdmhelmgcanaa
open Go.RowKit

theorem info26 : (Try.prog.info? 26).map (fun i => (i.zero, i.size, i.bytes)) = some (some (.int .u64 0), 1, 8) := by kernel_rfl

/-- a row of words -/
def row (f : Nat → Nat) (n : Nat) : List Value := (List.range n).map fun i => .int .u64 (f i : Nat)
/-- a digit -/
def dg (x i : Nat) : Nat := x / 65536 ^ i % 65536

theorem row_length (f : Nat → Nat) (n : Nat) : (row f n).length = n := by simp [row]
theorem row_succ (f : Nat → Nat) (n : Nat) : row f (n + 1) = row f n ++ [.int .u64 (f n : Nat)] := by simp [row, List.range_succ]
theorem row_congr {f g : Nat → Nat} {n : Nat} (h : ∀ i, i < n → f i = g i) : row f n = row g n := by
  unfold row; apply List.map_congr_left; intro a ha; rw [h a (List.mem_range.1 ha)]
theorem row_get (f : Nat → Nat) {n i : Nat} (h : i < n) : (row f n)[i]? = some (.int .u64 (f i : Nat)) := by
  simp [row, h]

theorem dg_lt (x i : Nat) : dg x i < 65536 := Nat.mod_lt _ (by omega)

/-- a digit by the number's parts -/
theorem dg_lm (x : Nat) {k : Nat} (hk : k < 16) : dg x k = lm x (k / 4) / 2 ^ (16 * (k % 4)) % 65536 := by
  have h : k = 0 ∨ k = 1 ∨ k = 2 ∨ k = 3 ∨ k = 4 ∨ k = 5 ∨ k = 6 ∨ k = 7 ∨ k = 8 ∨ k = 9 ∨ k = 10 ∨ k = 11 ∨ k = 12 ∨ k = 13 ∨ k = 14 ∨ k = 15 := by omega
  rcases h with rfl | rfl | rfl | rfl | rfl | rfl | rfl | rfl | rfl | rfl | rfl | rfl | rfl | rfl | rfl | rfl <;>
    (simp only [dg, lm, Nat.reduceDiv, Nat.reduceMod, Nat.reduceMul, Nat.reducePow]; omega)

theorem own_base {w : World} {B B' e size n : Nat} {v : Value} {xs : List Value} (h : w.ownsRow B' e size v n xs) (hB : B ≤ B') : w.ownsRow B e size v n xs :=
  ⟨h.1, h.2.imp id fun ⟨g, cap, cur, a, b, c⟩ => ⟨g, cap, cur, a, Nat.le_trans hB b, c⟩⟩
theorem own_below {w w' : World} {B e size n : Nat} {v : Value} {xs : List Value} (h : w.ownsRow B e size v n xs) (hb : Below w.heap.size w w') : w'.ownsRow B e size v n xs := by
  refine ⟨h.1, ?_⟩
  rcases h.2 with hn | ⟨g, cap, cur, rfl, hg, hgg, rest⟩
  · exact .inl hn
  · exact .inr ⟨g, cap, cur, rfl, hg, by rw [hb.block g (Array.getElem?_eq_some_iff.1 hgg).1]; exact hgg, rest⟩

/-- the number that digits are -/
def num (f : Nat → Nat) : Nat → Nat
  | 0 => 0
  | k + 1 => num f k + f k * 65536 ^ k

theorem num_dg (x k : Nat) : num (dg x) k = x % 65536 ^ k := by
  induction k with
  | zero => simp [num, Nat.mod_one]
  | succ k ih => rw [num, ih, dg, Nat.pow_succ, Nat.mod_mul, Nat.mul_comm (x / 65536 ^ k % 65536)]
theorem num_dg16 {x : Nat} (h : x < TOP) : num (dg x) 16 = x := by
  rw [num_dg]; exact Nat.mod_eq_of_lt h
theorem num_lt {f : Nat → Nat} {k : Nat} (h : ∀ i, i < k → f i < 65536) : num f k < 65536 ^ k := by
  induction k with
  | zero => simp [num]
  | succ k ih =>
    have h1 := ih fun i hi => h i (by omega)
    have h2 : f k * 65536 ^ k ≤ 65535 * 65536 ^ k := Nat.mul_le_mul_right _ (by have := h k (by omega); omega)
    rw [num, Nat.pow_succ]; omega
theorem num_congr {f g : Nat → Nat} {k : Nat} (h : ∀ i, i < k → f i = g i) : num f k = num g k := by
  induction k with
  | zero => rfl
  | succ k ih => rw [num, num, ih fun i hi => h i (by omega), h k (by omega)]
theorem num_add (f g : Nat → Nat) (k : Nat) : num (fun i => f i + g i) k = num f k + num g k := by
  induction k with
  | zero => rfl
  | succ k ih => rw [num, num, num, ih, Nat.add_mul]; omega

/-- what an append to one's own row leaves -/
theorem grow_step {B e n : Nat} {a wr w1 : World} {o : Obj} {v : Value} {xs : List Value} (hb : Below B a wr) (hB : B ≤ a.heap.size) (hown : wr.ownsRow B e 1 v n xs)
    (hg : (wr.alloc o).grownBy w1 v.ownBlock) : Below B a w1 :=
  (hb.alloc (Nat.le_trans hB hb.size) o).grown hg (by simp; have := hb.size; omega) (fun j hj => (hown.lt j hj).1)

set_option maxHeartbeats 4000000 in
set_option maxRecDepth 1000000 in
theorem digits_calls (x : Nat) (w : World) :
    Calls Try.prog 93 #[V x] w fun e w' => ∃ v, e = .returned v ∧ w'.ownsRow w.heap.size 26 1 v 16 (row (dg x) 16) ∧ Below w.heap.size w w' := by
  obtain ⟨i0, hi, hz0, hz1, hz2⟩ := info_parts info26
  unfold V V4
  go_enter Try.func93, Try.ntmps93
  go_wp2
  go_loopw [3, 4] (fun v i wr => ∃ k : Nat, k ≤ 16 ∧ i = .int .i64 k ∧ wr.ownsRow (w.heap.size + 1) 26 1 v k (row (dg x) k) ∧
      Below (w.heap.size + 1) (w.alloc (.cells #[.int .u64 (lm x 0 : Nat), .int .u64 (lm x 1 : Nat), .int .u64 (lm x 2 : Nat), .int .u64 (lm x 3 : Nat)] 28)) wr)
    (fun _ i _ => 16 - (intOf i).toNat)
  case atStart => exact ⟨0, Nat.zero_le _, rfl, World.ownsRow_nil _ _ _ _, Below.refl _ _⟩
  case round =>
    obtain ⟨k, hk, rfl, hown, hbel⟩ := hrel
    have hsz := hbel.size
    simp only [World.size_alloc] at hsz
    rcases Nat.lt_or_ge k 16 with hlt | hge
    · have h0 : wr.cell? ⟨w.heap.size, 0, none⟩ = some (.int .u64 (lm x 0 : Nat)) := by rw [hbel.cell (Nat.lt_succ_self _), World.cell?_alloc_at _ _ _ _ rfl]; rfl
      have h1 : wr.cell? ⟨w.heap.size, 1, none⟩ = some (.int .u64 (lm x 1 : Nat)) := by rw [hbel.cell (Nat.lt_succ_self _), World.cell?_alloc_at _ _ _ _ rfl]; rfl
      have h2 : wr.cell? ⟨w.heap.size, 2, none⟩ = some (.int .u64 (lm x 2 : Nat)) := by rw [hbel.cell (Nat.lt_succ_self _), World.cell?_alloc_at _ _ _ _ rfl]; rfl
      have h3 : wr.cell? ⟨w.heap.size, 3, none⟩ = some (.int .u64 (lm x 3 : Nat)) := by rw [hbel.cell (Nat.lt_succ_self _), World.cell?_alloc_at _ _ _ _ rfl]; rfl
      have h : k = 0 ∨ k = 1 ∨ k = 2 ∨ k = 3 ∨ k = 4 ∨ k = 5 ∨ k = 6 ∨ k = 7 ∨ k = 8 ∨ k = 9 ∨ k = 10 ∨ k = 11 ∨ k = 12 ∨ k = 13 ∨ k = 14 ∨ k = 15 := by omega
      obtain ⟨d, hd⟩ : ∃ d, d = dg x k := ⟨_, rfl⟩
      have HD : Hid (d = dg x k ∧ d = lm x (k / 4) / 2 ^ (16 * (k % 4)) % 65536) := ⟨hd, hd.trans (dg_lm x hlt)⟩
      clear hk hd
      rcases h with rfl | h
      · go_wp2_with (at_builtin; refine wpList_append_own _ rfl _ _ 88 rfl (w.heap.size + 1) 26 i0 (.int .u64 0) 1 8 Try.underlying88 hi hz0 hz1 hz2 rfl (by decide) _ _ _ rfl (hown.alloc _) ⟨wr.heap.size, 0, none⟩ 1 1 [.int .u64 (d : Nat)] rfl rfl ?c1 ?c2 ?c3 ?c4 ?c5 ?_)
        case c1 =>
          intro j u hj
          match j, hj with
          | 0, hj =>
            simp only [List.getElem?_cons_zero, Option.some.injEq] at hj
            subst hj
            have e := HD.out.2
            simp only [Nat.reduceDiv, Nat.reduceMod, Nat.reduceMul, Nat.reducePow, Nat.div_one] at e
            rw [e]
            simp [Addr.add]
        case c2 => intro u hu; simp at hu; subst hu; rfl
        case c3 => unfold maxLen; omega
        case c4 => omega
        case c5 => simp; omega
        · intro v' w1 hown' hgrow _
          have R := grow_step hbel (by simp) hown hgrow
          rw [HD.out.1, ← row_succ] at hown'
          clear hgrow hown h0 h1 h2 h3 HD
          go_wp2
          go_roundw
          case rel => exact ⟨1, by omega, by go_num, hown', R⟩
          case measure => simp [intOf] <;> omega
      rcases h with rfl | h
      · go_wp2_with (at_builtin; refine wpList_append_own _ rfl _ _ 88 rfl (w.heap.size + 1) 26 i0 (.int .u64 0) 1 8 Try.underlying88 hi hz0 hz1 hz2 rfl (by decide) _ _ _ rfl (hown.alloc _) ⟨wr.heap.size, 0, none⟩ 1 1 [.int .u64 (d : Nat)] rfl rfl ?c1 ?c2 ?c3 ?c4 ?c5 ?_)
        case c1 =>
          intro j u hj
          match j, hj with
          | 0, hj =>
            simp only [List.getElem?_cons_zero, Option.some.injEq] at hj
            subst hj
            have e := HD.out.2
            simp only [Nat.reduceDiv, Nat.reduceMod, Nat.reduceMul, Nat.reducePow] at e
            rw [e]
            simp [Addr.add]
        case c2 => intro u hu; simp at hu; subst hu; rfl
        case c3 => unfold maxLen; omega
        case c4 => omega
        case c5 => simp; omega
        · intro v' w1 hown' hgrow _
          have R := grow_step hbel (by simp) hown hgrow
          rw [HD.out.1, ← row_succ] at hown'
          clear hgrow hown h0 h1 h2 h3 HD
          go_wp2
          go_roundw
          case rel => exact ⟨2, by omega, by go_num, hown', R⟩
          case measure => simp [intOf] <;> omega
      rcases h with rfl | h
      · go_wp2_with (at_builtin; refine wpList_append_own _ rfl _ _ 88 rfl (w.heap.size + 1) 26 i0 (.int .u64 0) 1 8 Try.underlying88 hi hz0 hz1 hz2 rfl (by decide) _ _ _ rfl (hown.alloc _) ⟨wr.heap.size, 0, none⟩ 1 1 [.int .u64 (d : Nat)] rfl rfl ?c1 ?c2 ?c3 ?c4 ?c5 ?_)
        case c1 =>
          intro j u hj
          match j, hj with
          | 0, hj =>
            simp only [List.getElem?_cons_zero, Option.some.injEq] at hj
            subst hj
            have e := HD.out.2
            simp only [Nat.reduceDiv, Nat.reduceMod, Nat.reduceMul, Nat.reducePow] at e
            rw [e]
            simp [Addr.add]
        case c2 => intro u hu; simp at hu; subst hu; rfl
        case c3 => unfold maxLen; omega
        case c4 => omega
        case c5 => simp; omega
        · intro v' w1 hown' hgrow _
          have R := grow_step hbel (by simp) hown hgrow
          rw [HD.out.1, ← row_succ] at hown'
          clear hgrow hown h0 h1 h2 h3 HD
          go_wp2
          go_roundw
          case rel => exact ⟨3, by omega, by go_num, hown', R⟩
          case measure => simp [intOf] <;> omega
      rcases h with rfl | h
      · go_wp2_with (at_builtin; refine wpList_append_own _ rfl _ _ 88 rfl (w.heap.size + 1) 26 i0 (.int .u64 0) 1 8 Try.underlying88 hi hz0 hz1 hz2 rfl (by decide) _ _ _ rfl (hown.alloc _) ⟨wr.heap.size, 0, none⟩ 1 1 [.int .u64 (d : Nat)] rfl rfl ?c1 ?c2 ?c3 ?c4 ?c5 ?_)
        case c1 =>
          intro j u hj
          match j, hj with
          | 0, hj =>
            simp only [List.getElem?_cons_zero, Option.some.injEq] at hj
            subst hj
            have e := HD.out.2
            simp only [Nat.reduceDiv, Nat.reduceMod, Nat.reduceMul, Nat.reducePow] at e
            rw [e]
            simp [Addr.add]
        case c2 => intro u hu; simp at hu; subst hu; rfl
        case c3 => unfold maxLen; omega
        case c4 => omega
        case c5 => simp; omega
        · intro v' w1 hown' hgrow _
          have R := grow_step hbel (by simp) hown hgrow
          rw [HD.out.1, ← row_succ] at hown'
          clear hgrow hown h0 h1 h2 h3 HD
          go_wp2
          go_roundw
          case rel => exact ⟨4, by omega, by go_num, hown', R⟩
          case measure => simp [intOf] <;> omega
      rcases h with rfl | h
      · go_wp2_with (at_builtin; refine wpList_append_own _ rfl _ _ 88 rfl (w.heap.size + 1) 26 i0 (.int .u64 0) 1 8 Try.underlying88 hi hz0 hz1 hz2 rfl (by decide) _ _ _ rfl (hown.alloc _) ⟨wr.heap.size, 0, none⟩ 1 1 [.int .u64 (d : Nat)] rfl rfl ?c1 ?c2 ?c3 ?c4 ?c5 ?_)
        case c1 =>
          intro j u hj
          match j, hj with
          | 0, hj =>
            simp only [List.getElem?_cons_zero, Option.some.injEq] at hj
            subst hj
            have e := HD.out.2
            simp only [Nat.reduceDiv, Nat.reduceMod, Nat.reduceMul, Nat.reducePow, Nat.div_one] at e
            rw [e]
            simp [Addr.add]
        case c2 => intro u hu; simp at hu; subst hu; rfl
        case c3 => unfold maxLen; omega
        case c4 => omega
        case c5 => simp; omega
        · intro v' w1 hown' hgrow _
          have R := grow_step hbel (by simp) hown hgrow
          rw [HD.out.1, ← row_succ] at hown'
          clear hgrow hown h0 h1 h2 h3 HD
          go_wp2
          go_roundw
          case rel => exact ⟨5, by omega, by go_num, hown', R⟩
          case measure => simp [intOf] <;> omega
      rcases h with rfl | h
      · go_wp2_with (at_builtin; refine wpList_append_own _ rfl _ _ 88 rfl (w.heap.size + 1) 26 i0 (.int .u64 0) 1 8 Try.underlying88 hi hz0 hz1 hz2 rfl (by decide) _ _ _ rfl (hown.alloc _) ⟨wr.heap.size, 0, none⟩ 1 1 [.int .u64 (d : Nat)] rfl rfl ?c1 ?c2 ?c3 ?c4 ?c5 ?_)
        case c1 =>
          intro j u hj
          match j, hj with
          | 0, hj =>
            simp only [List.getElem?_cons_zero, Option.some.injEq] at hj
            subst hj
            have e := HD.out.2
            simp only [Nat.reduceDiv, Nat.reduceMod, Nat.reduceMul, Nat.reducePow] at e
            rw [e]
            simp [Addr.add]
        case c2 => intro u hu; simp at hu; subst hu; rfl
        case c3 => unfold maxLen; omega
        case c4 => omega
        case c5 => simp; omega
        · intro v' w1 hown' hgrow _
          have R := grow_step hbel (by simp) hown hgrow
          rw [HD.out.1, ← row_succ] at hown'
          clear hgrow hown h0 h1 h2 h3 HD
          go_wp2
          go_roundw
          case rel => exact ⟨6, by omega, by go_num, hown', R⟩
          case measure => simp [intOf] <;> omega
      rcases h with rfl | h
      · go_wp2_with (at_builtin; refine wpList_append_own _ rfl _ _ 88 rfl (w.heap.size + 1) 26 i0 (.int .u64 0) 1 8 Try.underlying88 hi hz0 hz1 hz2 rfl (by decide) _ _ _ rfl (hown.alloc _) ⟨wr.heap.size, 0, none⟩ 1 1 [.int .u64 (d : Nat)] rfl rfl ?c1 ?c2 ?c3 ?c4 ?c5 ?_)
        case c1 =>
          intro j u hj
          match j, hj with
          | 0, hj =>
            simp only [List.getElem?_cons_zero, Option.some.injEq] at hj
            subst hj
            have e := HD.out.2
            simp only [Nat.reduceDiv, Nat.reduceMod, Nat.reduceMul, Nat.reducePow] at e
            rw [e]
            simp [Addr.add]
        case c2 => intro u hu; simp at hu; subst hu; rfl
        case c3 => unfold maxLen; omega
        case c4 => omega
        case c5 => simp; omega
        · intro v' w1 hown' hgrow _
          have R := grow_step hbel (by simp) hown hgrow
          rw [HD.out.1, ← row_succ] at hown'
          clear hgrow hown h0 h1 h2 h3 HD
          go_wp2
          go_roundw
          case rel => exact ⟨7, by omega, by go_num, hown', R⟩
          case measure => simp [intOf] <;> omega
      rcases h with rfl | h
      · go_wp2_with (at_builtin; refine wpList_append_own _ rfl _ _ 88 rfl (w.heap.size + 1) 26 i0 (.int .u64 0) 1 8 Try.underlying88 hi hz0 hz1 hz2 rfl (by decide) _ _ _ rfl (hown.alloc _) ⟨wr.heap.size, 0, none⟩ 1 1 [.int .u64 (d : Nat)] rfl rfl ?c1 ?c2 ?c3 ?c4 ?c5 ?_)
        case c1 =>
          intro j u hj
          match j, hj with
          | 0, hj =>
            simp only [List.getElem?_cons_zero, Option.some.injEq] at hj
            subst hj
            have e := HD.out.2
            simp only [Nat.reduceDiv, Nat.reduceMod, Nat.reduceMul, Nat.reducePow] at e
            rw [e]
            simp [Addr.add]
        case c2 => intro u hu; simp at hu; subst hu; rfl
        case c3 => unfold maxLen; omega
        case c4 => omega
        case c5 => simp; omega
        · intro v' w1 hown' hgrow _
          have R := grow_step hbel (by simp) hown hgrow
          rw [HD.out.1, ← row_succ] at hown'
          clear hgrow hown h0 h1 h2 h3 HD
          go_wp2
          go_roundw
          case rel => exact ⟨8, by omega, by go_num, hown', R⟩
          case measure => simp [intOf] <;> omega
      rcases h with rfl | h
      · go_wp2_with (at_builtin; refine wpList_append_own _ rfl _ _ 88 rfl (w.heap.size + 1) 26 i0 (.int .u64 0) 1 8 Try.underlying88 hi hz0 hz1 hz2 rfl (by decide) _ _ _ rfl (hown.alloc _) ⟨wr.heap.size, 0, none⟩ 1 1 [.int .u64 (d : Nat)] rfl rfl ?c1 ?c2 ?c3 ?c4 ?c5 ?_)
        case c1 =>
          intro j u hj
          match j, hj with
          | 0, hj =>
            simp only [List.getElem?_cons_zero, Option.some.injEq] at hj
            subst hj
            have e := HD.out.2
            simp only [Nat.reduceDiv, Nat.reduceMod, Nat.reduceMul, Nat.reducePow, Nat.div_one] at e
            rw [e]
            simp [Addr.add]
        case c2 => intro u hu; simp at hu; subst hu; rfl
        case c3 => unfold maxLen; omega
        case c4 => omega
        case c5 => simp; omega
        · intro v' w1 hown' hgrow _
          have R := grow_step hbel (by simp) hown hgrow
          rw [HD.out.1, ← row_succ] at hown'
          clear hgrow hown h0 h1 h2 h3 HD
          go_wp2
          go_roundw
          case rel => exact ⟨9, by omega, by go_num, hown', R⟩
          case measure => simp [intOf] <;> omega
      rcases h with rfl | h
      · go_wp2_with (at_builtin; refine wpList_append_own _ rfl _ _ 88 rfl (w.heap.size + 1) 26 i0 (.int .u64 0) 1 8 Try.underlying88 hi hz0 hz1 hz2 rfl (by decide) _ _ _ rfl (hown.alloc _) ⟨wr.heap.size, 0, none⟩ 1 1 [.int .u64 (d : Nat)] rfl rfl ?c1 ?c2 ?c3 ?c4 ?c5 ?_)
        case c1 =>
          intro j u hj
          match j, hj with
          | 0, hj =>
            simp only [List.getElem?_cons_zero, Option.some.injEq] at hj
            subst hj
            have e := HD.out.2
            simp only [Nat.reduceDiv, Nat.reduceMod, Nat.reduceMul, Nat.reducePow] at e
            rw [e]
            simp [Addr.add]
        case c2 => intro u hu; simp at hu; subst hu; rfl
        case c3 => unfold maxLen; omega
        case c4 => omega
        case c5 => simp; omega
        · intro v' w1 hown' hgrow _
          have R := grow_step hbel (by simp) hown hgrow
          rw [HD.out.1, ← row_succ] at hown'
          clear hgrow hown h0 h1 h2 h3 HD
          go_wp2
          go_roundw
          case rel => exact ⟨10, by omega, by go_num, hown', R⟩
          case measure => simp [intOf] <;> omega
      rcases h with rfl | h
      · go_wp2_with (at_builtin; refine wpList_append_own _ rfl _ _ 88 rfl (w.heap.size + 1) 26 i0 (.int .u64 0) 1 8 Try.underlying88 hi hz0 hz1 hz2 rfl (by decide) _ _ _ rfl (hown.alloc _) ⟨wr.heap.size, 0, none⟩ 1 1 [.int .u64 (d : Nat)] rfl rfl ?c1 ?c2 ?c3 ?c4 ?c5 ?_)
        case c1 =>
          intro j u hj
          match j, hj with
          | 0, hj =>
            simp only [List.getElem?_cons_zero, Option.some.injEq] at hj
            subst hj
            have e := HD.out.2
            simp only [Nat.reduceDiv, Nat.reduceMod, Nat.reduceMul, Nat.reducePow] at e
            rw [e]
            simp [Addr.add]
        case c2 => intro u hu; simp at hu; subst hu; rfl
        case c3 => unfold maxLen; omega
        case c4 => omega
        case c5 => simp; omega
        · intro v' w1 hown' hgrow _
          have R := grow_step hbel (by simp) hown hgrow
          rw [HD.out.1, ← row_succ] at hown'
          clear hgrow hown h0 h1 h2 h3 HD
          go_wp2
          go_roundw
          case rel => exact ⟨11, by omega, by go_num, hown', R⟩
          case measure => simp [intOf] <;> omega
      rcases h with rfl | h
      · go_wp2_with (at_builtin; refine wpList_append_own _ rfl _ _ 88 rfl (w.heap.size + 1) 26 i0 (.int .u64 0) 1 8 Try.underlying88 hi hz0 hz1 hz2 rfl (by decide) _ _ _ rfl (hown.alloc _) ⟨wr.heap.size, 0, none⟩ 1 1 [.int .u64 (d : Nat)] rfl rfl ?c1 ?c2 ?c3 ?c4 ?c5 ?_)
        case c1 =>
          intro j u hj
          match j, hj with
          | 0, hj =>
            simp only [List.getElem?_cons_zero, Option.some.injEq] at hj
            subst hj
            have e := HD.out.2
            simp only [Nat.reduceDiv, Nat.reduceMod, Nat.reduceMul, Nat.reducePow] at e
            rw [e]
            simp [Addr.add]
        case c2 => intro u hu; simp at hu; subst hu; rfl
        case c3 => unfold maxLen; omega
        case c4 => omega
        case c5 => simp; omega
        · intro v' w1 hown' hgrow _
          have R := grow_step hbel (by simp) hown hgrow
          rw [HD.out.1, ← row_succ] at hown'
          clear hgrow hown h0 h1 h2 h3 HD
          go_wp2
          go_roundw
          case rel => exact ⟨12, by omega, by go_num, hown', R⟩
          case measure => simp [intOf] <;> omega
      rcases h with rfl | h
      · go_wp2_with (at_builtin; refine wpList_append_own _ rfl _ _ 88 rfl (w.heap.size + 1) 26 i0 (.int .u64 0) 1 8 Try.underlying88 hi hz0 hz1 hz2 rfl (by decide) _ _ _ rfl (hown.alloc _) ⟨wr.heap.size, 0, none⟩ 1 1 [.int .u64 (d : Nat)] rfl rfl ?c1 ?c2 ?c3 ?c4 ?c5 ?_)
        case c1 =>
          intro j u hj
          match j, hj with
          | 0, hj =>
            simp only [List.getElem?_cons_zero, Option.some.injEq] at hj
            subst hj
            have e := HD.out.2
            simp only [Nat.reduceDiv, Nat.reduceMod, Nat.reduceMul, Nat.reducePow, Nat.div_one] at e
            rw [e]
            simp [Addr.add]
        case c2 => intro u hu; simp at hu; subst hu; rfl
        case c3 => unfold maxLen; omega
        case c4 => omega
        case c5 => simp; omega
        · intro v' w1 hown' hgrow _
          have R := grow_step hbel (by simp) hown hgrow
          rw [HD.out.1, ← row_succ] at hown'
          clear hgrow hown h0 h1 h2 h3 HD
          go_wp2
          go_roundw
          case rel => exact ⟨13, by omega, by go_num, hown', R⟩
          case measure => simp [intOf] <;> omega
      rcases h with rfl | h
      · go_wp2_with (at_builtin; refine wpList_append_own _ rfl _ _ 88 rfl (w.heap.size + 1) 26 i0 (.int .u64 0) 1 8 Try.underlying88 hi hz0 hz1 hz2 rfl (by decide) _ _ _ rfl (hown.alloc _) ⟨wr.heap.size, 0, none⟩ 1 1 [.int .u64 (d : Nat)] rfl rfl ?c1 ?c2 ?c3 ?c4 ?c5 ?_)
        case c1 =>
          intro j u hj
          match j, hj with
          | 0, hj =>
            simp only [List.getElem?_cons_zero, Option.some.injEq] at hj
            subst hj
            have e := HD.out.2
            simp only [Nat.reduceDiv, Nat.reduceMod, Nat.reduceMul, Nat.reducePow] at e
            rw [e]
            simp [Addr.add]
        case c2 => intro u hu; simp at hu; subst hu; rfl
        case c3 => unfold maxLen; omega
        case c4 => omega
        case c5 => simp; omega
        · intro v' w1 hown' hgrow _
          have R := grow_step hbel (by simp) hown hgrow
          rw [HD.out.1, ← row_succ] at hown'
          clear hgrow hown h0 h1 h2 h3 HD
          go_wp2
          go_roundw
          case rel => exact ⟨14, by omega, by go_num, hown', R⟩
          case measure => simp [intOf] <;> omega
      rcases h with rfl | h
      · go_wp2_with (at_builtin; refine wpList_append_own _ rfl _ _ 88 rfl (w.heap.size + 1) 26 i0 (.int .u64 0) 1 8 Try.underlying88 hi hz0 hz1 hz2 rfl (by decide) _ _ _ rfl (hown.alloc _) ⟨wr.heap.size, 0, none⟩ 1 1 [.int .u64 (d : Nat)] rfl rfl ?c1 ?c2 ?c3 ?c4 ?c5 ?_)
        case c1 =>
          intro j u hj
          match j, hj with
          | 0, hj =>
            simp only [List.getElem?_cons_zero, Option.some.injEq] at hj
            subst hj
            have e := HD.out.2
            simp only [Nat.reduceDiv, Nat.reduceMod, Nat.reduceMul, Nat.reducePow] at e
            rw [e]
            simp [Addr.add]
        case c2 => intro u hu; simp at hu; subst hu; rfl
        case c3 => unfold maxLen; omega
        case c4 => omega
        case c5 => simp; omega
        · intro v' w1 hown' hgrow _
          have R := grow_step hbel (by simp) hown hgrow
          rw [HD.out.1, ← row_succ] at hown'
          clear hgrow hown h0 h1 h2 h3 HD
          go_wp2
          go_roundw
          case rel => exact ⟨15, by omega, by go_num, hown', R⟩
          case measure => simp [intOf] <;> omega
      subst h
      · go_wp2_with (at_builtin; refine wpList_append_own _ rfl _ _ 88 rfl (w.heap.size + 1) 26 i0 (.int .u64 0) 1 8 Try.underlying88 hi hz0 hz1 hz2 rfl (by decide) _ _ _ rfl (hown.alloc _) ⟨wr.heap.size, 0, none⟩ 1 1 [.int .u64 (d : Nat)] rfl rfl ?c1 ?c2 ?c3 ?c4 ?c5 ?_)
        case c1 =>
          intro j u hj
          match j, hj with
          | 0, hj =>
            simp only [List.getElem?_cons_zero, Option.some.injEq] at hj
            subst hj
            have e := HD.out.2
            simp only [Nat.reduceDiv, Nat.reduceMod, Nat.reduceMul, Nat.reducePow] at e
            rw [e]
            simp [Addr.add]
        case c2 => intro u hu; simp at hu; subst hu; rfl
        case c3 => unfold maxLen; omega
        case c4 => omega
        case c5 => simp; omega
        · intro v' w1 hown' hgrow _
          have R := grow_step hbel (by simp) hown hgrow
          rw [HD.out.1, ← row_succ] at hown'
          clear hgrow hown h0 h1 h2 h3 HD
          go_wp2
          go_roundw
          case rel => exact ⟨16, by omega, by go_num, hown', R⟩
          case measure => simp [intOf] <;> omega
    · have e : k = 16 := by omega
      subst e
      go_wp2
      go_ret
      exact ⟨_, rfl, own_base hown (Nat.le_succ _), ((Below.refl _ w).alloc (Nat.le_refl _) _).trans (hbel.mono (Nat.le_succ _))⟩

end Go.Proofs.Ytmjdmhelmgcanaa
